/- PART 5 of the texts of a claim, joined by a program: what each part shows stands at its head. -/
import Derived.Test.YtgnpmphnpnfapaaPart522601e865

namespace Go.Av
open Go.Proofs
set_option maxRecDepth 100000
def fi20:Fi:=⟨36,[.tmp 2]⟩
def kp20:List (Nat × List Nat):=[(0,[0]),(1,[0,3]),(2,[0,3,9,10,11]),(3,[0,3,9,10,11,12]),(4,[0,3,5,9,10,11]),(5,[0,3,9,10,11]),(6,[0,3,9,10,11,20]),(7,[0,3,9,10,11]),(8,[0,3,9,10,11]),(9,[0,6]),(10,[6,25,26,27]),(11,[6,25,26,27,28]),(12,[6,8,25,26,27]),(13,[6,25,26,27]),(14,[6,25,26,27]),(15,[2])]
def svCo_at (fx:Bool) (X:List Bl) (Q:AV -> Heap -> Prop):Prop:=Wp M1 (.run fi20 (atC (cd Try.f20) []) [(0,.vec fx 1 (X.map Bl.a))] []) Q
def svCoa_at (fx:Bool) (X:List Bl) (s n i:Int) (Q:AV -> Heap -> Prop):Prop:=Wp M1 (.run fi20 (atC (cd Try.f20) [1,1,0,1,0,0]) [(0,.vec fx 1 (X.map Bl.a)),(3,.int .i64 s),(9,.vec fx 1 (X.map Bl.a)),(10,.int .i64 n),(11,.int .i64 i)] []) Q
def svCob_at (gs:List AV) (fx g:Bool) (y:Bk) (l:List Bk) (X:List Bl) (n:Int) (Q:AV -> Heap -> Prop):Prop:=Wp M1 (.run fi20 (atC (cd Try.f20) [1,1,1,1,0,1,0,0]) [(6,.ref 0 0 0 0),(25,.vec fx 1 (.vec g 3 ((y :: l).map Bk.a) :: X.map Bl.a)),(26,.int .i64 n),(27,.int .i64 0)] [⟨gs,3,0,false,true⟩]) Q
def svCoc_at (fx:Bool) (X:List Bl) (q:List Bk) (v:Nat) (n i:Int) (Q:AV -> Heap -> Prop):Prop:=Wp M1 (.run fi20 (atC (cd Try.f20) [1,1,1,1,0,1,0,0]) [(6,.row 0 v),(25,.vec fx 1 (X.map Bl.a)),(26,.int .i64 n),(27,.int .i64 i)] [⟨q.map Bk.a,3,v,false,true⟩]) Q
def svCoz_at (gs:List AV) (fx fa fb fc:Bool) (B C:List Bk) (n:Int) (Q:AV -> Heap -> Prop):Prop:=Wp M1 (.run fi20 (atC (cd Try.f20) [1,1,1,1,0,1,0,0]) [(6,.ref 0 0 0 0),(25,.vec fx 1 [.vec fa 3 [],.vec fb 3 (B.map Bk.a),.vec fc 3 (C.map Bk.a)]),(26,.int .i64 n),(27,.int .i64 0)] [⟨gs,3,0,false,true⟩]) Q
def svCoy_at (gs:List AV) (fx fa fb fc:Bool) (C:List Bk) (n:Int) (Q:AV -> Heap -> Prop):Prop:=Wp M1 (.run fi20 (atC (cd Try.f20) [1,1,1,1,0,1,0,0]) [(6,.ref 0 0 0 0),(25,.vec fx 1 [.vec fa 3 [],.vec fb 3 [],.vec fc 3 (C.map Bk.a)]),(26,.int .i64 n),(27,.int .i64 1)] [⟨gs,3,0,false,true⟩]) Q
def svCox_at (gs:List AV) (fx fa fb fc:Bool) (y:Bk) (B C:List Bk) (n:Int) (Q:AV -> Heap -> Prop):Prop:=Wp M1 (.run fi20 (atC (cd Try.f20) [1,1,1,1,0,1,0,0]) [(6,.ref 0 0 0 0),(25,.vec fx 1 [.vec fa 3 [],.vec fb 3 ((y :: B).map Bk.a),.vec fc 3 (C.map Bk.a)]),(26,.int .i64 n),(27,.int .i64 1)] [⟨gs,3,0,false,true⟩]) Q
def svCow_at (gs:List AV) (fx fa fb fc:Bool) (y:Bk) (C:List Bk) (n:Int) (Q:AV -> Heap -> Prop):Prop:=Wp M1 (.run fi20 (atC (cd Try.f20) [1,1,1,1,0,1,0,0]) [(6,.ref 0 0 0 0),(25,.vec fx 1 [.vec fa 3 [],.vec fb 3 [],.vec fc 3 ((y :: C).map Bk.a)]),(26,.int .i64 n),(27,.int .i64 2)] [⟨gs,3,0,false,true⟩]) Q
theorem call20 {args:List AV} {d:AV} (h:wc M1 fi20 Try.f20 args d):Ev M1 (.pure 20 args) d []:=pcl _ _ (by kernel_rfl) h
theorem svCo (fx:Bool) (X:List Bl)  (dq:AV) (H :
  svCoa_at (fx) (X) (0) ((↑X.length:Int)) (0) (PureQ dq)) :
 svCo_at fx X (PureQ dq):=by
 unfold svCo_at
 have w1:(List.map Bl.a X).length = X.length:=List.length_map ..
 exact path_wp (G:=given kp20 [] []) 1000 [] ⟨(atC (cd Try.f20) [1,1,0,1,0,0]),[(0,AV.vec fx 1 (List.map Bl.a X)),(3,vi 0),(9,AV.vec fx 1 (List.map Bl.a X)),(10,vi (↑(List.map Bl.a X).length:Int)),(11,vi 0)],[],_,[],_⟩ (by kernel_rfl) b0 q0 c0 (by (try rw [w1]);all_goals exact H)
theorem svCoa (fx:Bool) (X:List Bl) (s n i:Int)  (dq:AV) (H :
  ((i < n) -> (0 <= i) /\
   (i.toNat < X.length) /\
   (-9223372036854775808 <= s + (↑(X.getD i.toNat default).2.length:Int) /\ s + (↑(X.getD i.toNat default).2.length:Int) <= 9223372036854775807) /\
   ((s + (↑(X.getD i.toNat default).2.length:Int) < 0) -> False) /\
   (¬(s + (↑(X.getD i.toNat default).2.length:Int) < 0) -> (-9223372036854775808 <= i + 1 /\ i + 1 <= 9223372036854775807) /\
    svCoa_at (fx) (X) (s + (↑(X.getD i.toNat default).2.length:Int)) (n) (i + 1) (PureQ dq))) /\
  (¬(i < n) -> ((s > 0) -> (0 < s /\ s <= 1000000) /\
    Wp M1 (.run fi20 (atC (cd Try.f20) [1,1,1,1,0,1,0,0]) [(6,AV.ref 0 0 0 0),(25,AV.vec fx 1 (List.map Bl.a X)),(26,vi (↑X.length:Int)),(27,vi 0)] [{ elems:=List.replicate s.toNat Sp.zbk,es:=3,ver:=0,frozen:=false,clean:=true }]) (PureQ dq)) /\
   (¬(s > 0) -> (0 <= s) /\
    Wp M1 (.run fi20 (atC (cd Try.f20) [1,1,1,1,0,1,0,0]) [(6,AV.vnil),(25,AV.vec fx 1 (List.map Bl.a X)),(26,vi (↑X.length:Int)),(27,vi 0)] []) (PureQ dq)))) :
 svCoa_at fx X s n i (PureQ dq):=by
 unfold svCoa_at
 rcases xm (i < n) with d2 | d2
 ·have H:=H.1 d2
  obtain ⟨k4,H⟩:=H
  have w5:(List.map Bl.a X).length = X.length:=List.length_map ..
  have i6:(decide (i.toNat < (List.map Bl.a X).length)) = true ↔ (i.toNat < X.length):=(by (try rw [w5]);all_goals exact i_dec)
  obtain ⟨k7,H⟩:=H
  have w8:(List.map Bk.a (X.getD i.toNat default).2).length = (X.getD i.toNat default).2.length:=List.length_map ..
  obtain ⟨k9,H⟩:=H
  have w10:wi (s + (↑(X.getD i.toNat default).2.length:Int)) = s + (↑(X.getD i.toNat default).2.length:Int):=wI64 k9
  have i11:(decide (wi (s + (↑(List.map Bk.a (X.getD i.toNat default).2).length:Int)) < 0)) = true ↔ (s + (↑(X.getD i.toNat default).2.length:Int) < 0):=(by (try rw [w8]);(try rw [w10]);all_goals exact i_dec)
  refine path_wp (G:=given kp20 [(4,1,.elem (AV.vec (X.getD i.toNat default).1 3 (List.map Bk.a (X.getD i.toNat default).2)))] []) 13 [true] ⟨(atC (cd Try.f20) [1,1,0,1,0,0,1,1,0,0,1,1,1]),[(0,AV.vec fx 1 (List.map Bl.a X)),(3,vi (wi (s + (↑(List.map Bk.a (X.getD i.toNat default).2).length:Int)))),(9,AV.vec fx 1 (List.map Bl.a X)),(10,vi n),(11,vi i),(20,vb (decide (wi (s + (↑(List.map Bk.a (X.getD i.toNat default).2).length:Int)) < 0)))],[],_,[((List.map Bl.a X).get?Internal i.toNat = some (AV.vec (X.getD i.toNat default).1 3 (List.map Bk.a (X.getD i.toNat default).2)))],_⟩ (by kernel_rfl) (bc (beq_t (i_dec.2 d2)) (bc (i_dec.2 k4) (bc (i6.2 k7) b0))) (qc (el_map k7) q0) c0 ?_
  rcases xm (s + (↑(X.getD i.toNat default).2.length:Int) < 0) with d12 | d12
  ·have H:=H.1 d12
   exact False.elim H
  ·have H:=H.2 d12
   obtain ⟨k13,H⟩:=H
   have w14:wi (i + 1) = i + 1:=wI64 k13
   exact path_wp (G:=given kp20 [] []) 1000 [false] ⟨(atC (cd Try.f20) [1,1,0,1,0,0]),[(0,AV.vec fx 1 (List.map Bl.a X)),(3,vi (wi (s + (↑(List.map Bk.a (X.getD i.toNat default).2).length:Int)))),(9,AV.vec fx 1 (List.map Bl.a X)),(10,vi n),(11,vi (wi (i + 1)))],[],_,[],_⟩ (by kernel_rfl) (bc (beq_f (fun h => d12 (i11.1 h))) b0) q0 c0 (by (try rw [w8]);(try rw [w10]);(try rw [w14]);all_goals exact H)
 ·have H:=H.2 d2
  rcases xm (s > 0) with d15 | d15
  ·have H:=H.1 d15
   obtain ⟨k16,H⟩:=H
   have w17:(List.map Bl.a X).length = X.length:=List.length_map ..
   exact path_wp (G:=given kp20 [(9,1,.call (AV.ref 0 0 0 0) (some [⟨List.replicate s.toNat Sp.zbk,3,0,false,true⟩]))] []) 1000 [false] ⟨(atC (cd Try.f20) [1,1,1,1,0,1,0,0]),[(6,AV.ref 0 0 0 0),(25,AV.vec fx 1 (List.map Bl.a X)),(26,vi (↑(List.map Bl.a X).length:Int)),(27,vi 0)],[⟨List.replicate s.toNat Sp.zbk,3,0,false,true⟩],_,[],[⟨true,true,49,[AV.vnil,vi s],[],AV.ref 0 0 0 0,[⟨List.replicate s.toNat Sp.zbk,3,0,false,true⟩]⟩]⟩ (by kernel_rfl) (bc (beq_f (fun h => d2 (i_dec.1 h))) b0) q0 (cc (fun _ => (@evo49_y (s) k16 d15)) c0) (by (try rw [w17]);all_goals exact H)
  ·have H:=H.2 d15
   obtain ⟨k18,H⟩:=H
   have w19:(List.map Bl.a X).length = X.length:=List.length_map ..
   exact path_wp (G:=given kp20 [(9,1,.call (AV.vnil) none)] []) 1000 [false] ⟨(atC (cd Try.f20) [1,1,1,1,0,1,0,0]),[(6,AV.vnil),(25,AV.vec fx 1 (List.map Bl.a X)),(26,vi (↑(List.map Bl.a X).length:Int)),(27,vi 0)],[],_,[],[⟨true,true,49,[AV.vnil,vi s],[],AV.vnil,[]⟩]⟩ (by kernel_rfl) (bc (beq_f (fun h => d2 (i_dec.1 h))) b0) q0 (cc (fun _ => (@evo49_n (s) k18 d15)) c0) (by (try rw [w19]);all_goals exact H)
theorem svCob (gs:List AV) (fx g:Bool) (y:Bk) (l:List Bk) (X:List Bl) (n:Int)  (dq:AV) (H :
  ((0 < n) -> (0 < X.length + 1) /\
   ((0 + (l.length + 1)) * 48 <= 1099511627776) /\
   Wp M1 (.run fi20 (atC (cd Try.f20) [1,1,1,1,0,1,0,0]) [(6,AV.row 0 1),(25,AV.vec fx 1 (AV.vec g 3 (ag [vb y.1,AV.vec y.2 2 (List.map Wo.a y.3),AV.str y.4] :: List.map Bk.a l) :: List.map Bl.a X)),(26,vi n),(27,vi 1)] [{ elems:=ag [vb y.1,AV.vec y.2 2 (List.map Wo.a y.3),AV.str y.4] :: List.map Bk.a l,es:=3,ver:=1,frozen:=false,clean:=true }]) (PureQ dq)) /\
  (¬(0 < n) -> Weak (AV.vec false 3 []) dq)) :
 svCob_at gs fx g y l X n (PureQ dq):=by
 unfold svCob_at
 rcases xm (0 < n) with d2 | d2
 ·have H:=H.1 d2
  have w3:(List.map Bl.a X).length = X.length:=List.length_map ..
  have i4:(decide (0 < (List.map Bl.a X).length + 1)) = true ↔ (0 < X.length + 1):=(by (try rw [w3]);all_goals exact i_dec)
  obtain ⟨k5,H⟩:=H
  have w6:(List.map Bk.a l).length = l.length:=List.length_map ..
  have i7:(decide ((0 + ((List.map Bk.a l).length + 1)) * 48 <= 1099511627776)) = true ↔ ((0 + (l.length + 1)) * 48 <= 1099511627776):=(by (try rw [w6]);all_goals exact i_dec)
  obtain ⟨k8,H⟩:=H
  exact path_wp (G:=given kp20 [] []) 1000 [true] ⟨(atC (cd Try.f20) [1,1,1,1,0,1,0,0]),[(6,AV.row 0 1),(25,AV.vec fx 1 (AV.vec g 3 (ag [vb y.1,AV.vec y.2 2 (List.map Wo.a y.3),AV.str y.4] :: List.map Bk.a l) :: List.map Bl.a X)),(26,vi n),(27,vi 1)],[⟨ag [vb y.1,AV.vec y.2 2 (List.map Wo.a y.3),AV.str y.4] :: List.map Bk.a l,3,1,false,true⟩],_,[],_⟩ (by kernel_rfl) (bc (beq_t (i_dec.2 d2)) (bc rfl (bc (i4.2 k5) (bc rfl (bc (i7.2 k8) b0))))) q0 c0 (H)
 ·have H:=H.2 d2
  exact path_ret (G:=given kp20 [] []) 1000 [false] (k:=((atC (cd Try.f20) [1,1,1,1,1,1])).tail) (env':=[(2,AV.ref 0 0 0 0)]) (L':=[⟨gs,3,0,false,true⟩]) (asm:=[(decide (0 < n)) == false]) (eqs:=[]) (calls:=[]) (AV.ref 0 0 0 0) (by kernel_rfl) (by kernel_rfl) (allB_cons (beq_f (fun h => d2 (i_dec.1 h))) allB_nil) allP_nil allC_nil (pq_weak (d:=(AV.vec false 3 [])) (bs:=[0 == 0]) (by kernel_rfl) (by kernel_rfl) (allB_cons (beq_self_eq_true _) allB_nil) (by kernel_rfl) H)
theorem svCoc (fx:Bool) (X:List Bl) (q:List Bk) (v:Nat) (n i:Int)  (dq:AV) (H :
  ((i < n) -> (0 <= i) /\
   (i.toNat < X.length) /\
   ((q.length + (X.getD i.toNat default).2.length) * 48 <= 1099511627776) /\
   (-9223372036854775808 <= i + 1 /\ i + 1 <= 9223372036854775807) /\
   svCoc_at (fx) (X) (q ++ (X.getD i.toNat default).2) (v + 1) (n) (i + 1) (PureQ dq)) /\
  (¬(i < n) -> Weak (AV.vec false 3 (List.map Bk.a q)) dq)) :
 svCoc_at fx X q v n i (PureQ dq):=by
 unfold svCoc_at
 rcases xm (i < n) with d2 | d2
 ·have H:=H.1 d2
  obtain ⟨k4,H⟩:=H
  have w5:(List.map Bl.a X).length = X.length:=List.length_map ..
  have i6:(decide (i.toNat < (List.map Bl.a X).length)) = true ↔ (i.toNat < X.length):=(by (try rw [w5]);all_goals exact i_dec)
  obtain ⟨k7,H⟩:=H
  have w8:(List.map Bk.a q).length = q.length:=List.length_map ..
  have w9:(List.map Bk.a (X.getD i.toNat default).2).length = (X.getD i.toNat default).2.length:=List.length_map ..
  have i10:(decide (((List.map Bk.a q).length + (List.map Bk.a (X.getD i.toNat default).2).length) * 48 <= 1099511627776)) = true ↔ ((q.length + (X.getD i.toNat default).2.length) * 48 <= 1099511627776):=(by (try rw [w8]);(try rw [w9]);all_goals exact i_dec)
  obtain ⟨k11,H⟩:=H
  have w12:List.map Bk.a q ++ List.map Bk.a (X.getD i.toNat default).2 = List.map Bk.a (q ++ (X.getD i.toNat default).2):=(lm_app rfl rfl)
  obtain ⟨k13,H⟩:=H
  have w14:wi (i + 1) = i + 1:=wI64 k13
  exact path_wp (G:=given kp20 [(12,1,.elem (AV.vec (X.getD i.toNat default).1 3 (List.map Bk.a (X.getD i.toNat default).2)))] []) 1000 [true] ⟨(atC (cd Try.f20) [1,1,1,1,0,1,0,0]),[(6,AV.row 0 (v + 1)),(25,AV.vec fx 1 (List.map Bl.a X)),(26,vi n),(27,vi (wi (i + 1)))],[⟨List.map Bk.a q ++ List.map Bk.a (X.getD i.toNat default).2,3,v + 1,false,true⟩],[(decide (i < n)) == true,decide (0 <= i),decide (i.toNat < (List.map Bl.a X).length),v == v,decide (((List.map Bk.a q).length + (List.map Bk.a (X.getD i.toNat default).2).length) * 48 <= 1099511627776)],[((List.map Bl.a X).get?Internal i.toNat = some (AV.vec (X.getD i.toNat default).1 3 (List.map Bk.a (X.getD i.toNat default).2)))],_⟩ (by kernel_rfl) (bc (beq_t (i_dec.2 d2)) (bc (i_dec.2 k4) (bc (i6.2 k7) (bc (beq_self_eq_true _) (bc (i10.2 k11) b0))))) (qc (el_map k7) q0) c0 (by (try rw [w12]);(try rw [w14]);all_goals exact H)
 ·have H:=H.2 d2
  exact path_ret (G:=given kp20 [] []) 1000 [false] (k:=((atC (cd Try.f20) [1,1,1,1,1,1])).tail) (env':=[(2,AV.row 0 v)]) (L':=[⟨List.map Bk.a q,3,v,false,true⟩]) (asm:=[(decide (i < n)) == false]) (eqs:=[]) (calls:=[]) (AV.row 0 v) (by kernel_rfl) (by kernel_rfl) (allB_cons (beq_f (fun h => d2 (i_dec.1 h))) allB_nil) allP_nil allC_nil (pq_weak (d:=(AV.vec false 3 (List.map Bk.a q))) (bs:=[v == v]) (by kernel_rfl) (by kernel_rfl) (allB_cons (beq_self_eq_true _) allB_nil) (by kernel_rfl) H)
theorem svCoz (gs:List AV) (fx fa fb fc:Bool) (B C:List Bk) (n:Int)  (dq:AV) (H :
  ((0 < n) -> Wp M1 (.run fi20 (atC (cd Try.f20) [1,1,1,1,0,1,0,0]) [(6,AV.ref 0 0 0 0),(25,AV.vec fx 1 [AV.vec fa 3 [],AV.vec fb 3 (List.map Bk.a B),AV.vec fc 3 (List.map Bk.a C)]),(26,vi n),(27,vi 1)] [{ elems:=gs,es:=3,ver:=0,frozen:=false,clean:=true }]) (PureQ dq)) /\
  (¬(0 < n) -> Weak (AV.vec false 3 []) dq)) :
 svCoz_at gs fx fa fb fc B C n (PureQ dq):=by
 unfold svCoz_at
 rcases xm (0 < n) with d2 | d2
 ·have H:=H.1 d2
  exact path_wp (G:=given kp20 [] []) 1000 [true] ⟨(atC (cd Try.f20) [1,1,1,1,0,1,0,0]),[(6,AV.ref 0 0 0 0),(25,AV.vec fx 1 [AV.vec fa 3 [],AV.vec fb 3 (List.map Bk.a B),AV.vec fc 3 (List.map Bk.a C)]),(26,vi n),(27,vi 1)],[⟨gs,3,0,false,true⟩],_,[],_⟩ (by kernel_rfl) (bc (beq_t (i_dec.2 d2)) (bc rfl (bc rfl (bc rfl b0)))) q0 c0 (H)
 ·have H:=H.2 d2
  exact path_ret (G:=given kp20 [] []) 1000 [false] (k:=((atC (cd Try.f20) [1,1,1,1,1,1])).tail) (env':=[(2,AV.ref 0 0 0 0)]) (L':=[⟨gs,3,0,false,true⟩]) (asm:=[(decide (0 < n)) == false]) (eqs:=[]) (calls:=[]) (AV.ref 0 0 0 0) (by kernel_rfl) (by kernel_rfl) (allB_cons (beq_f (fun h => d2 (i_dec.1 h))) allB_nil) allP_nil allC_nil (pq_weak (d:=(AV.vec false 3 [])) (bs:=[0 == 0]) (by kernel_rfl) (by kernel_rfl) (allB_cons (beq_self_eq_true _) allB_nil) (by kernel_rfl) H)
theorem svCoy (gs:List AV) (fx fa fb fc:Bool) (C:List Bk) (n:Int)  (dq:AV) (H :
  ((1 < n) -> Wp M1 (.run fi20 (atC (cd Try.f20) [1,1,1,1,0,1,0,0]) [(6,AV.ref 0 0 0 0),(25,AV.vec fx 1 [AV.vec fa 3 [],AV.vec fb 3 [],AV.vec fc 3 (List.map Bk.a C)]),(26,vi n),(27,vi 2)] [{ elems:=gs,es:=3,ver:=0,frozen:=false,clean:=true }]) (PureQ dq)) /\
  (¬(1 < n) -> Weak (AV.vec false 3 []) dq)) :
 svCoy_at gs fx fa fb fc C n (PureQ dq):=by
 unfold svCoy_at
 rcases xm (1 < n) with d2 | d2
 ·have H:=H.1 d2
  exact path_wp (G:=given kp20 [] []) 1000 [true] ⟨(atC (cd Try.f20) [1,1,1,1,0,1,0,0]),[(6,AV.ref 0 0 0 0),(25,AV.vec fx 1 [AV.vec fa 3 [],AV.vec fb 3 [],AV.vec fc 3 (List.map Bk.a C)]),(26,vi n),(27,vi 2)],[⟨gs,3,0,false,true⟩],_,[],_⟩ (by kernel_rfl) (bc (beq_t (i_dec.2 d2)) (bc rfl (bc rfl (bc rfl b0)))) q0 c0 (H)
 ·have H:=H.2 d2
  exact path_ret (G:=given kp20 [] []) 1000 [false] (k:=((atC (cd Try.f20) [1,1,1,1,1,1])).tail) (env':=[(2,AV.ref 0 0 0 0)]) (L':=[⟨gs,3,0,false,true⟩]) (asm:=[(decide (1 < n)) == false]) (eqs:=[]) (calls:=[]) (AV.ref 0 0 0 0) (by kernel_rfl) (by kernel_rfl) (allB_cons (beq_f (fun h => d2 (i_dec.1 h))) allB_nil) allP_nil allC_nil (pq_weak (d:=(AV.vec false 3 [])) (bs:=[0 == 0]) (by kernel_rfl) (by kernel_rfl) (allB_cons (beq_self_eq_true _) allB_nil) (by kernel_rfl) H)
theorem svCox (gs:List AV) (fx fa fb fc:Bool) (y:Bk) (B C:List Bk) (n:Int)  (dq:AV) (H :
  ((1 < n) -> ((0 + (B.length + 1)) * 48 <= 1099511627776) /\
   Wp M1 (.run fi20 (atC (cd Try.f20) [1,1,1,1,0,1,0,0]) [(6,AV.row 0 1),(25,AV.vec fx 1 [AV.vec fa 3 [],AV.vec fb 3 (ag [vb y.1,AV.vec y.2 2 (List.map Wo.a y.3),AV.str y.4] :: List.map Bk.a B),AV.vec fc 3 (List.map Bk.a C)]),(26,vi n),(27,vi 2)] [{ elems:=ag [vb y.1,AV.vec y.2 2 (List.map Wo.a y.3),AV.str y.4] :: List.map Bk.a B,es:=3,ver:=1,frozen:=false,clean:=true }]) (PureQ dq)) /\
  (¬(1 < n) -> Weak (AV.vec false 3 []) dq)) :
 svCox_at gs fx fa fb fc y B C n (PureQ dq):=by
 unfold svCox_at
 rcases xm (1 < n) with d2 | d2
 ·have H:=H.1 d2
  have w3:(List.map Bk.a B).length = B.length:=List.length_map ..
  have i4:(decide ((0 + ((List.map Bk.a B).length + 1)) * 48 <= 1099511627776)) = true ↔ ((0 + (B.length + 1)) * 48 <= 1099511627776):=(by (try rw [w3]);all_goals exact i_dec)
  obtain ⟨k5,H⟩:=H
  exact path_wp (G:=given kp20 [] []) 1000 [true] ⟨(atC (cd Try.f20) [1,1,1,1,0,1,0,0]),[(6,AV.row 0 1),(25,AV.vec fx 1 [AV.vec fa 3 [],AV.vec fb 3 (ag [vb y.1,AV.vec y.2 2 (List.map Wo.a y.3),AV.str y.4] :: List.map Bk.a B),AV.vec fc 3 (List.map Bk.a C)]),(26,vi n),(27,vi 2)],[⟨ag [vb y.1,AV.vec y.2 2 (List.map Wo.a y.3),AV.str y.4] :: List.map Bk.a B,3,1,false,true⟩],_,[],_⟩ (by kernel_rfl) (bc (beq_t (i_dec.2 d2)) (bc rfl (bc rfl (bc rfl (bc (i4.2 k5) b0))))) q0 c0 (H)
 ·have H:=H.2 d2
  exact path_ret (G:=given kp20 [] []) 1000 [false] (k:=((atC (cd Try.f20) [1,1,1,1,1,1])).tail) (env':=[(2,AV.ref 0 0 0 0)]) (L':=[⟨gs,3,0,false,true⟩]) (asm:=[(decide (1 < n)) == false]) (eqs:=[]) (calls:=[]) (AV.ref 0 0 0 0) (by kernel_rfl) (by kernel_rfl) (allB_cons (beq_f (fun h => d2 (i_dec.1 h))) allB_nil) allP_nil allC_nil (pq_weak (d:=(AV.vec false 3 [])) (bs:=[0 == 0]) (by kernel_rfl) (by kernel_rfl) (allB_cons (beq_self_eq_true _) allB_nil) (by kernel_rfl) H)
theorem svCow (gs:List AV) (fx fa fb fc:Bool) (y:Bk) (C:List Bk) (n:Int)  (dq:AV) (H :
  ((2 < n) -> ((0 + (C.length + 1)) * 48 <= 1099511627776) /\
   Wp M1 (.run fi20 (atC (cd Try.f20) [1,1,1,1,0,1,0,0]) [(6,AV.row 0 1),(25,AV.vec fx 1 [AV.vec fa 3 [],AV.vec fb 3 [],AV.vec fc 3 (ag [vb y.1,AV.vec y.2 2 (List.map Wo.a y.3),AV.str y.4] :: List.map Bk.a C)]),(26,vi n),(27,vi 3)] [{ elems:=ag [vb y.1,AV.vec y.2 2 (List.map Wo.a y.3),AV.str y.4] :: List.map Bk.a C,es:=3,ver:=1,frozen:=false,clean:=true }]) (PureQ dq)) /\
  (¬(2 < n) -> Weak (AV.vec false 3 []) dq)) :
 svCow_at gs fx fa fb fc y C n (PureQ dq):=by
 unfold svCow_at
 rcases xm (2 < n) with d2 | d2
 ·have H:=H.1 d2
  have w3:(List.map Bk.a C).length = C.length:=List.length_map ..
  have i4:(decide ((0 + ((List.map Bk.a C).length + 1)) * 48 <= 1099511627776)) = true ↔ ((0 + (C.length + 1)) * 48 <= 1099511627776):=(by (try rw [w3]);all_goals exact i_dec)
  obtain ⟨k5,H⟩:=H
  exact path_wp (G:=given kp20 [] []) 1000 [true] ⟨(atC (cd Try.f20) [1,1,1,1,0,1,0,0]),[(6,AV.row 0 1),(25,AV.vec fx 1 [AV.vec fa 3 [],AV.vec fb 3 [],AV.vec fc 3 (ag [vb y.1,AV.vec y.2 2 (List.map Wo.a y.3),AV.str y.4] :: List.map Bk.a C)]),(26,vi n),(27,vi 3)],[⟨ag [vb y.1,AV.vec y.2 2 (List.map Wo.a y.3),AV.str y.4] :: List.map Bk.a C,3,1,false,true⟩],_,[],_⟩ (by kernel_rfl) (bc (beq_t (i_dec.2 d2)) (bc rfl (bc rfl (bc rfl (bc (i4.2 k5) b0))))) q0 c0 (H)
 ·have H:=H.2 d2
  exact path_ret (G:=given kp20 [] []) 1000 [false] (k:=((atC (cd Try.f20) [1,1,1,1,1,1])).tail) (env':=[(2,AV.ref 0 0 0 0)]) (L':=[⟨gs,3,0,false,true⟩]) (asm:=[(decide (2 < n)) == false]) (eqs:=[]) (calls:=[]) (AV.ref 0 0 0 0) (by kernel_rfl) (by kernel_rfl) (allB_cons (beq_f (fun h => d2 (i_dec.1 h))) allB_nil) allP_nil allC_nil (pq_weak (d:=(AV.vec false 3 [])) (bs:=[0 == 0]) (by kernel_rfl) (by kernel_rfl) (allB_cons (beq_self_eq_true _) allB_nil) (by kernel_rfl) H)
end Go.Av

namespace Go.Av
open Go.Proofs
def Sp.cat (X:List Bl):List Bk:=X.flatMap fun x => x.bl
def Sp.okCat (X:List Bl):Prop:=0 < (X.getD 0 default).bl.length /\ (Sp.cat X).length <= 1000000 /\ X.length <= 1000000
theorem cat_drop {X:List Bl} {i:Nat} (h:i < X.length):Sp.cat (X.drop i) = (X.getD i default).bl ++ Sp.cat (X.drop (i + 1)):=by
 rw [drop_getD h];rfl
theorem svCoc_loop {fx:Bool} {X:List Bl} {dq:AV} (h:Sp.okCat X) (hq:.vec false 3 ((Sp.cat X).map Bk.a) = dq):∀ (c i:Nat) (q:List Bk) (v:Nat),i + c = X.length -> q ++ Sp.cat (X.drop i) = Sp.cat X -> svCoc_at fx X q v X.length i (PureQ dq):=by
 obtain ⟨h1,h2,h3⟩:=h
 intro c
 induction c with
 | zero =>
  intro i q v hi he
  rw [List.drop_eq_nil_of_le (by omega)] at he
  rw [<- he,show Sp.cat [] = [] from rfl,List.append_nil] at hq
  exact svCoc _ _ _ _ _ _ _ ⟨fun h => by omega,fun _ => by rw [hq];exact .refl _⟩
 | succ c ih =>
  intro i q v hi he
  rw [cat_drop (by omega),<- List.append_assoc] at he
  refine svCoc _ _ _ _ _ _ _ ⟨fun _ => ?_,fun h => by omega⟩
  rw [Int.toNat_natCast]
  have hl:=congrArg List.length he
  rw [List.length_append,List.length_append] at hl
  refine ⟨by omega,by omega,?_,by omega,ih (i + 1) _ _ (by omega) he⟩
  show (q.length + (X.getD i default).bl.length) * 48 <= _
  omega
theorem ev20 (fx:Bool) (X:List Bl) (h:Sp.okCat X):Ev M1 (.pure 20 [.vec fx 1 (X.map Bl.a)]) (.vec false 3 ((Sp.cat X).map Bk.a)) []:=by
 have h':=h
 obtain ⟨h1,h2,h3⟩:=h'
 have loop:∀ (c i:Nat) (s:Int),i + c = X.length -> 0 <= s -> s + (Sp.cat (X.drop i)).length = (Sp.cat X).length -> svCoa_at fx X s X.length i (PureQ (.vec false 3 ((Sp.cat X).map Bk.a))):=by
  intro c
  induction c with
  | zero =>
   intro i s hi h0 he
   rw [List.drop_eq_nil_of_le (by omega),show Sp.cat [] = [] from rfl] at he
   have hs:0 < (Sp.cat X).length:=by
    have:=cat_drop (X:=X) (i:=0) (by cases X with | nil => simp at h1;exact (Nat.lt_irrefl 0 h1).elim | cons _ _ => simp)
    rw [List.drop_zero] at this
    rw [this,List.length_append];omega
   simp only [List.length_nil] at he
   refine svCoa _ _ _ _ _ _ ⟨fun h => by omega,fun _ => ⟨fun _ => ⟨by omega,?_⟩,fun h => by omega⟩⟩
   cases X with
   | nil => simp [Sp.cat] at hs
   | cons x X =>
    obtain ⟨g,bl⟩:=x
    cases bl with
    | nil => simp at h1
    | cons y l =>
     refine (svCob _ fx g y l X (X.length + 1:Nat) _ ⟨fun _ => ⟨by omega,?_,?_⟩,fun k => by omega⟩:svCob_at _ fx g y l X (X.length + 1:Nat) _)
     ·simp [Sp.cat] at h2;omega
     ·exact svCoc_loop (X:=⟨g,y :: l⟩ :: X) h rfl X.length 1 (y :: l) 1 (by simp;omega) (by simp [Sp.cat])
  | succ c ih =>
   intro i s hi h0 he
   rw [cat_drop (by omega),List.length_append] at he
   refine svCoa _ _ _ _ _ _ ⟨fun _ => ?_,fun h => by omega⟩
   rw [Int.toNat_natCast]
   show _ /\ _ /\ (-9223372036854775808 <= s + ((X.getD i default).bl.length:Int) /\ s + ((X.getD i default).bl.length:Int) <= 9223372036854775807) /\ ((s + ((X.getD i default).bl.length:Int) < 0) -> False) /\ (¬(s + ((X.getD i default).bl.length:Int) < 0) -> (-9223372036854775808 <= (i:Int) + 1 /\ (i:Int) + 1 <= 9223372036854775807) /\ svCoa_at fx X (s + ((X.getD i default).bl.length:Int)) X.length (i + 1) _)
   refine ⟨by omega,by omega,by omega,fun h => by omega,fun _ => ⟨by omega,ih (i + 1) _ (by omega) (by omega) (by omega)⟩⟩
 exact call20 (svCo _ _ _ (loop X.length 0 0 (by omega) (by omega) (by rw [List.drop_zero];omega)))
end Go.Av

namespace Go.Av
open Go.Proofs
set_option maxRecDepth 100000
def fi71:Fi:=⟨110,[.tmp 2,.tmp 3]⟩
def kp71:List (Nat × List Nat):=[(0,[1]),(1,[1,23]),(2,[2,3]),(3,[1,4]),(4,[1,4,5]),(5,[1,4,5,35,36,37]),(6,[1,4,5,35,36,37,38]),(7,[1,4,5,7,35,36,37]),(8,[1,4,5,7,35,36,37]),(9,[1,4,5,35,36,37]),(10,[1,4,5,35,36,37]),(11,[1,4,5,8]),(12,[1,4,8,56,57,58]),(13,[1,4,8,56,57,58,59]),(14,[1,4,8,10,56,57,58]),(15,[1,4,8,11,13,14,56,57,58]),(16,[1,4,8,11,13,14,56,57,58,70]),(17,[2,3]),(18,[1,4,8,11,56,57,58,72]),(19,[1,4,8,56,57,58]),(20,[1,4,8,56,57,58]),(21,[1,4,78,79,80]),(22,[1,4,78,79,80,81]),(23,[1,4,16,78,79,80]),(24,[1,4,18,78,79,80]),(25,[1,4,78,79,80,94]),(26,[2,3]),(27,[1,4,78,79,80]),(28,[4,97,98,99]),(29,[4,97,98,99,100]),(30,[4,20,97,98,99]),(31,[4,97,98,99,107]),(32,[2,3]),(33,[4,97,98,99]),(34,[2,3])]
def tvNx_at (g:Bool) (l:List Bk) (h:Bool) (s:List Sb) (Q:AV -> Heap -> Prop):Prop:=Wp M1 (.run fi71 (atC (cd Try.f71) []) [(0,.agg [.vec g 3 (l.map Bk.a),.vec h 2 (s.map Sb.a)])] []) Q
def tvNa_at (g:Bool) (l:List Bk) (h:Bool) (s:List Sb) (sm:List AV) (n i:Int) (Q:AV -> Heap -> Prop):Prop:=Wp M1 (.run fi71 (atC (cd Try.f71) [1,1,1,1,0,1,0,0]) [(1,.ptr 0 0 0 0),(4,.ptr 6 0 0 0),(5,.vec true 1 [.vec g 3 (l.map Bk.a)]),(35,.vec h 2 (s.map Sb.a)),(36,.int .i64 n),(37,.int .i64 i)] [⟨[.agg [.vec g 3 (l.map Bk.a),.vec h 2 (s.map Sb.a)]],2,0,false,false⟩,⟨sm,2,0,false,true⟩,⟨[],2,0,false,true⟩,⟨[],2,0,false,true⟩,⟨[],2,0,false,true⟩,⟨[],2,0,false,true⟩,⟨[.agg [.mapr 1,.mapr 2,.mapr 3,.mapr 4,.mapr 5]],5,0,false,false⟩]) Q
def tvNb_at (g:Bool) (l:List Bk) (h:Bool) (s:List Sb) (sm:List AV) (X:List Bl) (v:Nat) (n i:Int) (Q:AV -> Heap -> Prop):Prop:=Wp M1 (.run fi71 (atC (cd Try.f71) [1,1,1,1,0,1,0,0]) [(1,.ptr 0 0 0 0),(4,.ptr 6 0 0 0),(5,.row 7 v),(35,.vec h 2 (s.map Sb.a)),(36,.int .i64 n),(37,.int .i64 i)] [⟨[.agg [.vec g 3 (l.map Bk.a),.vec h 2 (s.map Sb.a)]],2,0,false,false⟩,⟨sm,2,0,false,true⟩,⟨[],2,0,false,true⟩,⟨[],2,0,false,true⟩,⟨[],2,0,false,true⟩,⟨[],2,0,false,true⟩,⟨[.agg [.mapr 1,.mapr 2,.mapr 3,.mapr 4,.mapr 5]],5,0,false,false⟩,⟨X.map Bl.a,1,v,false,true⟩]) Q
def tvNc_at (g:Bool) (l:List Bk) (h:Bool) (s:List Sb) (sm:List AV) (o:List Bk) (n i:Int) (Q:AV -> Heap -> Prop):Prop:=Wp M1 (.run fi71 (atC (cd Try.f71) [1,1,1,1,1,1,0,1,0,0]) [(1,.ptr 0 0 0 0),(4,.ptr 6 0 0 0),(8,.vnil),(56,.vec false 3 (o.map Bk.a)),(57,.int .i64 n),(58,.int .i64 i)] [⟨[.agg [.vec g 3 (l.map Bk.a),.vec h 2 (s.map Sb.a)]],2,0,false,false⟩,⟨sm,2,0,false,true⟩,⟨[],2,0,false,true⟩,⟨[],2,0,false,true⟩,⟨[],2,0,false,true⟩,⟨[],2,0,false,true⟩,⟨[.agg [.mapr 1,.mapr 2,.mapr 3,.mapr 4,.mapr 5]],5,0,false,false⟩]) Q
def tvNd_at (g:Bool) (l:List Bk) (h:Bool) (s:List Sb) (sm:List AV) (o:List Bk) (q:List Int) (v:Nat) (n i:Int) (Q:AV -> Heap -> Prop):Prop:=Wp M1 (.run fi71 (atC (cd Try.f71) [1,1,1,1,1,1,0,1,0,0]) [(1,.ptr 0 0 0 0),(4,.ptr 6 0 0 0),(8,.row 7 v),(56,.vec false 3 (o.map Bk.a)),(57,.int .i64 n),(58,.int .i64 i)] [⟨[.agg [.vec g 3 (l.map Bk.a),.vec h 2 (s.map Sb.a)]],2,0,false,false⟩,⟨sm,2,0,false,true⟩,⟨[],2,0,false,true⟩,⟨[],2,0,false,true⟩,⟨[],2,0,false,true⟩,⟨[],2,0,false,true⟩,⟨[.agg [.mapr 1,.mapr 2,.mapr 3,.mapr 4,.mapr 5]],5,0,false,false⟩,⟨q.map (.int .i64),1,v,false,true⟩]) Q
def tvNe_at (g:Bool) (l:List Bk) (h:Bool) (s:List Sb) (sm:List AV) (Q:AV -> Heap -> Prop):Prop:=Wp M1 (.run fi71 (atC (cd Try.f71) [1,1,1,1,1,1,1,0,1,0,0]) [(1,.ptr 0 0 0 0),(4,.ptr 6 0 0 0),(78,.vnil),(79,.int .i64 0),(80,.int .i64 0)] [⟨[.agg [.vec g 3 (l.map Bk.a),.vec h 2 (s.map Sb.a)]],2,0,false,false⟩,⟨sm,2,0,false,true⟩,⟨[],2,0,false,true⟩,⟨[],2,0,false,true⟩,⟨[],2,0,false,true⟩,⟨[],2,0,false,true⟩,⟨[.agg [.mapr 1,.mapr 2,.mapr 3,.mapr 4,.mapr 5]],5,0,false,false⟩]) Q
def tvNf_at (g:Bool) (l:List Bk) (h:Bool) (s:List Sb) (sm:List AV) (q:List Int) (v:Nat) (n i:Int) (Q:AV -> Heap -> Prop):Prop:=Wp M1 (.run fi71 (atC (cd Try.f71) [1,1,1,1,1,1,1,0,1,0,0]) [(1,.ptr 0 0 0 0),(4,.ptr 6 0 0 0),(78,.row 7 v),(79,.int .i64 n),(80,.int .i64 i)] [⟨[.agg [.vec g 3 (l.map Bk.a),.vec h 2 (s.map Sb.a)]],2,0,false,false⟩,⟨sm,2,0,false,true⟩,⟨[],2,0,false,true⟩,⟨[],2,0,false,true⟩,⟨[],2,0,false,true⟩,⟨[],2,0,false,true⟩,⟨[.agg [.mapr 1,.mapr 2,.mapr 3,.mapr 4,.mapr 5]],5,0,false,false⟩,⟨q.map (.int .i64),1,v,false,true⟩]) Q
def tvNg_at (h:Bool) (s:List Sb) (sm st dp sz:List AV) (n i:Int) (Q:AV -> Heap -> Prop):Prop:=Wp M1 (.run fi71 (atC (cd Try.f71) [1,1,1,1,1,1,1,1,0,1,0,0]) [(4,.ptr 5 0 0 0),(97,.vec h 2 (s.map Sb.a)),(98,.int .i64 n),(99,.int .i64 i)] [⟨sm,2,0,false,true⟩,⟨st,2,0,false,true⟩,⟨dp,2,0,false,true⟩,⟨sz,2,0,false,true⟩,⟨[],2,0,false,true⟩,⟨[.agg [.mapr 0,.mapr 1,.mapr 2,.mapr 3,.mapr 4]],5,0,false,false⟩]) Q
theorem owncall71 {args:List AV} {L:Heap} {Q:AV -> Heap -> Prop} (h:Wp M1 (.run fi71 [.code (cd Try.f71)] (argVars 0 args) L) Q):Wp M1 (.own 71 args L) Q:=
 own_wp Try.f71 fi71 (by kernel_rfl) (by kernel_rfl) (by kernel_rfl) (by kernel_rfl) h
theorem tvNx (g:Bool) (l:List Bk) (h:Bool) (s:List Sb)  (Q:AV -> Heap -> Prop) (H :
  (Sp.okBs l /\ Sp.okSs s) /\
  ((¬(Sp.prpB l s = true)) -> Q (tu [AV.nilp,vi 1]) [{ elems:=[ag [AV.vec g 3 (List.map Bk.a l),AV.vec h 2 (List.map Sb.a s)]],es:=2,ver:=0,frozen:=false,clean:=false }]) /\
  (¬(¬(Sp.prpB l s = true)) -> tvNa_at (g) (l) (h) (s) ([]) ((↑s.length:Int)) (0) Q)) :
 tvNx_at g l h s Q:=by
 unfold tvNx_at
 obtain ⟨k1,H⟩:=H
 refine path_wp (G:=given kp71 [(1,1,.call (vb (Sp.prpB l s)) none)] []) 5 [] ⟨(atC (cd Try.f71) [1,0,1]),[(1,AV.ptr 0 0 0 0),(23,vb !Sp.prpB l s)],[⟨[ag [AV.vec g 3 (List.map Bk.a l),AV.vec h 2 (List.map Sb.a s)]],2,0,false,false⟩],_,[],_⟩ (by kernel_rfl) (bc rfl b0) q0 (ce (@ev83 (g) (h) (l) (s) k1) c0) ?_
 rcases xm (¬(Sp.prpB l s = true)) with d3 | d3
 ·have H:=H.1 d3
  exact path_ret (G:=given kp71 [] []) 1000 [true] (k:=((atC (cd Try.f71) [1,0,1,0,1])).tail) (env':=[(2,AV.nilp),(3,vi 1)]) (L':=[⟨[ag [AV.vec g 3 (List.map Bk.a l),AV.vec h 2 (List.map Sb.a s)]],2,0,false,false⟩]) (asm:=[(!Sp.prpB l s) == true]) (eqs:=[]) (calls:=[]) (tu [AV.nilp,vi 1]) (by kernel_rfl) (by kernel_rfl) (allB_cons (beq_t ((i_not (i_var _)).2 d3)) allB_nil) allP_nil allC_nil H
 ·have H:=H.2 d3
  have w4:(List.map Sb.a s).length = s.length:=List.length_map ..
  exact path_wp (G:=given kp71 [] []) 1000 [false] ⟨(atC (cd Try.f71) [1,1,1,1,0,1,0,0]),[(1,AV.ptr 0 0 0 0),(4,AV.ptr 6 0 0 0),(5,AV.vec true 1 [AV.vec g 3 (List.map Bk.a l)]),(35,AV.vec h 2 (List.map Sb.a s)),(36,vi (↑(List.map Sb.a s).length:Int)),(37,vi 0)],[⟨[ag [AV.vec g 3 (List.map Bk.a l),AV.vec h 2 (List.map Sb.a s)]],2,0,false,false⟩,⟨[],2,0,false,true⟩,⟨[],2,0,false,true⟩,⟨[],2,0,false,true⟩,⟨[],2,0,false,true⟩,⟨[],2,0,false,true⟩,⟨[ag [AV.mapr 1,AV.mapr 2,AV.mapr 3,AV.mapr 4,AV.mapr 5]],5,0,false,false⟩],[(!Sp.prpB l s) == false,true,true],[],_⟩ (by kernel_rfl) (bc (beq_f (fun h => d3 ((i_not (i_var _)).1 h))) (bc rfl (bc rfl b0))) q0 c0 (by (try rw [w4]);all_goals exact H)
theorem tvNa (g:Bool) (l:List Bk) (h:Bool) (s:List Sb) (sm:List AV) (n i:Int)  (Q:AV -> Heap -> Prop) (H :
  ((i < n) -> (0 <= i) /\
   (i.toNat < s.length) /\
   (mapKeys IntKind.i64 sm = true) /\
   (-9223372036854775808 <= i + 1 /\ i + 1 <= 9223372036854775807) /\
   Wp M1 (.run fi71 (atC (cd Try.f71) [1,1,1,1,0,1,0,0]) [(1,AV.ptr 0 0 0 0),(4,AV.ptr 6 0 0 0),(5,AV.row 8 0),(35,AV.vec h 2 (List.map Sb.a s)),(36,vi n),(37,vi (i + 1))] [{ elems:=[ag [AV.vec g 3 (List.map Bk.a l),AV.vec h 2 (List.map Sb.a s)]],es:=2,ver:=0,frozen:=false,clean:=false },{ elems:=mapPut IntKind.i64 (s.getD i.toNat default).n (AV.vec (s.getD i.toNat default).2 3 (List.map Bk.a (s.getD i.toNat default).3)) sm,es:=2,ver:=0,frozen:=false,clean:=true },{ elems:=[],es:=2,ver:=0,frozen:=false,clean:=true },{ elems:=[],es:=2,ver:=0,frozen:=false,clean:=true },{ elems:=[],es:=2,ver:=0,frozen:=false,clean:=true },{ elems:=[],es:=2,ver:=0,frozen:=false,clean:=true },{ elems:=[ag [AV.mapr 1,AV.mapr 2,AV.mapr 3,AV.mapr 4,AV.mapr 5]],es:=5,ver:=0,frozen:=false,clean:=false },{ elems:=[ag [vi (s.getD i.toNat default).n,AV.vec (s.getD i.toNat default).2 3 (List.map Bk.a (s.getD i.toNat default).3)]],es:=2,ver:=0,frozen:=false,clean:=false },{ elems:=[AV.vec g 3 (List.map Bk.a l),AV.vec (s.getD i.toNat default).2 3 (List.map Bk.a (s.getD i.toNat default).3)],es:=1,ver:=0,frozen:=false,clean:=true }]) Q) /\
  (¬(i < n) -> ∃ (x1:Bl),
   (Ev M1 (Conf.pure 20 [AV.vec true 1 [AV.vec g 3 (List.map Bk.a l)]]) (AV.vec x1.1 3 (List.map Bk.a x1.2)) []) /\
   Wp M1 (.run fi71 (atC (cd Try.f71) [1,1,1,1,1,1,0,1,0,0]) [(1,AV.ptr 0 0 0 0),(4,AV.ptr 6 0 0 0),(8,AV.vnil),(56,AV.vec x1.1 3 (List.map Bk.a x1.2)),(57,vi (↑x1.2.length:Int)),(58,vi 0)] [{ elems:=[ag [AV.vec g 3 (List.map Bk.a l),AV.vec h 2 (List.map Sb.a s)]],es:=2,ver:=0,frozen:=false,clean:=false },{ elems:=sm,es:=2,ver:=0,frozen:=false,clean:=true },{ elems:=[],es:=2,ver:=0,frozen:=false,clean:=true },{ elems:=[],es:=2,ver:=0,frozen:=false,clean:=true },{ elems:=[],es:=2,ver:=0,frozen:=false,clean:=true },{ elems:=[],es:=2,ver:=0,frozen:=false,clean:=true },{ elems:=[ag [AV.mapr 1,AV.mapr 2,AV.mapr 3,AV.mapr 4,AV.mapr 5]],es:=5,ver:=0,frozen:=false,clean:=false }]) Q)) :
 tvNa_at g l h s sm n i Q:=by
 unfold tvNa_at
 rcases xm (i < n) with d2 | d2
 ·have H:=H.1 d2
  obtain ⟨k4,H⟩:=H
  have w5:(List.map Sb.a s).length = s.length:=List.length_map ..
  have i6:(decide (i.toNat < (List.map Sb.a s).length)) = true ↔ (i.toNat < s.length):=(by (try rw [w5]);all_goals exact i_dec)
  obtain ⟨k7,H⟩:=H
  obtain ⟨k9,H⟩:=H
  obtain ⟨k10,H⟩:=H
  have w11:wi (i + 1) = i + 1:=wI64 k10
  exact path_wp (G:=given kp71 [(7,1,.elem (ag [vi (s.getD i.toNat default).n,AV.vec (s.getD i.toNat default).2 3 (List.map Bk.a (s.getD i.toNat default).3)]))] []) 1000 [true] ⟨(atC (cd Try.f71) [1,1,1,1,0,1,0,0]),[(1,AV.ptr 0 0 0 0),(4,AV.ptr 6 0 0 0),(5,AV.row 8 0),(35,AV.vec h 2 (List.map Sb.a s)),(36,vi n),(37,vi (wi (i + 1)))],[⟨[ag [AV.vec g 3 (List.map Bk.a l),AV.vec h 2 (List.map Sb.a s)]],2,0,false,false⟩,⟨mapPut IntKind.i64 (s.getD i.toNat default).n (AV.vec (s.getD i.toNat default).2 3 (List.map Bk.a (s.getD i.toNat default).3)) sm,2,0,false,true⟩,⟨[],2,0,false,true⟩,⟨[],2,0,false,true⟩,⟨[],2,0,false,true⟩,⟨[],2,0,false,true⟩,⟨[ag [AV.mapr 1,AV.mapr 2,AV.mapr 3,AV.mapr 4,AV.mapr 5]],5,0,false,false⟩,⟨[ag [vi (s.getD i.toNat default).n,AV.vec (s.getD i.toNat default).2 3 (List.map Bk.a (s.getD i.toNat default).3)]],2,0,false,false⟩,⟨[AV.vec g 3 (List.map Bk.a l),AV.vec (s.getD i.toNat default).2 3 (List.map Bk.a (s.getD i.toNat default).3)],1,0,false,true⟩],[(decide (i < n)) == true,decide (0 <= i),decide (i.toNat < (List.map Sb.a s).length),true,true,true,true,mapKeys IntKind.i64 sm,true,true],[((List.map Sb.a s).get?Internal i.toNat = some (ag [vi (s.getD i.toNat default).n,AV.vec (s.getD i.toNat default).2 3 (List.map Bk.a (s.getD i.toNat default).3)]))],_⟩ (by kernel_rfl) (bc (beq_t (i_dec.2 d2)) (bc (i_dec.2 k4) (bc (i6.2 k7) (bc rfl (bc rfl (bc rfl (bc rfl (bc ((i_var _).2 k9) (bc rfl (bc rfl b0)))))))))) (qc (el_map k7) q0) c0 (by (try rw [w11]);all_goals exact H)
 ·have H:=H.2 d2
  obtain ⟨x1,H⟩:=H
  obtain ⟨k12,H⟩:=H
  have w13:(List.map Bk.a x1.2).length = x1.2.length:=List.length_map ..
  exact path_wp (G:=given kp71 [(12,1,.call (AV.vec x1.1 3 (List.map Bk.a x1.2)) none)] []) 1000 [false] ⟨(atC (cd Try.f71) [1,1,1,1,1,1,0,1,0,0]),[(1,AV.ptr 0 0 0 0),(4,AV.ptr 6 0 0 0),(8,AV.vnil),(56,AV.vec x1.1 3 (List.map Bk.a x1.2)),(57,vi (↑(List.map Bk.a x1.2).length:Int)),(58,vi 0)],[⟨[ag [AV.vec g 3 (List.map Bk.a l),AV.vec h 2 (List.map Sb.a s)]],2,0,false,false⟩,⟨sm,2,0,false,true⟩,⟨[],2,0,false,true⟩,⟨[],2,0,false,true⟩,⟨[],2,0,false,true⟩,⟨[],2,0,false,true⟩,⟨[ag [AV.mapr 1,AV.mapr 2,AV.mapr 3,AV.mapr 4,AV.mapr 5]],5,0,false,false⟩],_,[],_⟩ (by kernel_rfl) (bc (beq_f (fun h => d2 (i_dec.1 h))) b0) q0 (ce k12 c0) (by (try rw [w13]);all_goals exact H)
theorem tvNb (g:Bool) (l:List Bk) (h:Bool) (s:List Sb) (sm:List AV) (X:List Bl) (v:Nat) (n i:Int)  (Q:AV -> Heap -> Prop) (H :
  ((i < n) -> (0 <= i) /\
   (i.toNat < s.length) /\
   (mapKeys IntKind.i64 sm = true) /\
   ((X.length + 1) * 24 <= 1099511627776) /\
   (-9223372036854775808 <= i + 1 /\ i + 1 <= 9223372036854775807) /\
   Wp M1 (.run fi71 (atC (cd Try.f71) [1,1,1,1,0,1,0,0]) [(1,AV.ptr 0 0 0 0),(4,AV.ptr 6 0 0 0),(5,AV.row 7 (v + 1)),(35,AV.vec h 2 (List.map Sb.a s)),(36,vi n),(37,vi (i + 1))] [{ elems:=[ag [AV.vec g 3 (List.map Bk.a l),AV.vec h 2 (List.map Sb.a s)]],es:=2,ver:=0,frozen:=false,clean:=false },{ elems:=mapPut IntKind.i64 (s.getD i.toNat default).n (AV.vec (s.getD i.toNat default).2 3 (List.map Bk.a (s.getD i.toNat default).3)) sm,es:=2,ver:=0,frozen:=false,clean:=true },{ elems:=[],es:=2,ver:=0,frozen:=false,clean:=true },{ elems:=[],es:=2,ver:=0,frozen:=false,clean:=true },{ elems:=[],es:=2,ver:=0,frozen:=false,clean:=true },{ elems:=[],es:=2,ver:=0,frozen:=false,clean:=true },{ elems:=[ag [AV.mapr 1,AV.mapr 2,AV.mapr 3,AV.mapr 4,AV.mapr 5]],es:=5,ver:=0,frozen:=false,clean:=false },{ elems:=List.map Bl.a (X ++ [{ f:=(s.getD i.toNat default).2,bl:=(s.getD i.toNat default).3 }]),es:=1,ver:=v + 1,frozen:=false,clean:=true },{ elems:=[ag [vi (s.getD i.toNat default).n,AV.vec (s.getD i.toNat default).2 3 (List.map Bk.a (s.getD i.toNat default).3)]],es:=2,ver:=0,frozen:=false,clean:=false }]) Q) /\
  (¬(i < n) -> (Sp.okCat X) /\
   Wp M1 (.run fi71 (atC (cd Try.f71) [1,1,1,1,1,1,0,1,0,0]) [(1,AV.ptr 0 0 0 0),(4,AV.ptr 6 0 0 0),(8,AV.vnil),(56,AV.vec false 3 (List.map Bk.a (Sp.cat X))),(57,vi (↑(Sp.cat X).length:Int)),(58,vi 0)] [{ elems:=[ag [AV.vec g 3 (List.map Bk.a l),AV.vec h 2 (List.map Sb.a s)]],es:=2,ver:=0,frozen:=false,clean:=false },{ elems:=sm,es:=2,ver:=0,frozen:=false,clean:=true },{ elems:=[],es:=2,ver:=0,frozen:=false,clean:=true },{ elems:=[],es:=2,ver:=0,frozen:=false,clean:=true },{ elems:=[],es:=2,ver:=0,frozen:=false,clean:=true },{ elems:=[],es:=2,ver:=0,frozen:=false,clean:=true },{ elems:=[ag [AV.mapr 1,AV.mapr 2,AV.mapr 3,AV.mapr 4,AV.mapr 5]],es:=5,ver:=0,frozen:=false,clean:=false },{ elems:=List.map Bl.a X,es:=1,ver:=v,frozen:=true,clean:=true }]) Q)) :
 tvNb_at g l h s sm X v n i Q:=by
 unfold tvNb_at
 rcases xm (i < n) with d2 | d2
 ·have H:=H.1 d2
  obtain ⟨k4,H⟩:=H
  have w5:(List.map Sb.a s).length = s.length:=List.length_map ..
  have i6:(decide (i.toNat < (List.map Sb.a s).length)) = true ↔ (i.toNat < s.length):=(by (try rw [w5]);all_goals exact i_dec)
  obtain ⟨k7,H⟩:=H
  obtain ⟨k9,H⟩:=H
  have w10:(List.map Bl.a X).length = X.length:=List.length_map ..
  have i11:(decide (((List.map Bl.a X).length + 1) * 24 <= 1099511627776)) = true ↔ ((X.length + 1) * 24 <= 1099511627776):=(by (try rw [w10]);all_goals exact i_dec)
  obtain ⟨k12,H⟩:=H
  have w13:List.map Bl.a X ++ [AV.vec (s.getD i.toNat default).2 3 (List.map Bk.a (s.getD i.toNat default).3)] = List.map Bl.a (X ++ [{ f:=(s.getD i.toNat default).2,bl:=(s.getD i.toNat default).3 }]):=(lm_app rfl rfl)
  obtain ⟨k14,H⟩:=H
  have w15:wi (i + 1) = i + 1:=wI64 k14
  exact path_wp (G:=given kp71 [(7,1,.elem (ag [vi (s.getD i.toNat default).n,AV.vec (s.getD i.toNat default).2 3 (List.map Bk.a (s.getD i.toNat default).3)]))] []) 1000 [true] ⟨(atC (cd Try.f71) [1,1,1,1,0,1,0,0]),[(1,AV.ptr 0 0 0 0),(4,AV.ptr 6 0 0 0),(5,AV.row 7 (v + 1)),(35,AV.vec h 2 (List.map Sb.a s)),(36,vi n),(37,vi (wi (i + 1)))],[⟨[ag [AV.vec g 3 (List.map Bk.a l),AV.vec h 2 (List.map Sb.a s)]],2,0,false,false⟩,⟨mapPut IntKind.i64 (s.getD i.toNat default).n (AV.vec (s.getD i.toNat default).2 3 (List.map Bk.a (s.getD i.toNat default).3)) sm,2,0,false,true⟩,⟨[],2,0,false,true⟩,⟨[],2,0,false,true⟩,⟨[],2,0,false,true⟩,⟨[],2,0,false,true⟩,⟨[ag [AV.mapr 1,AV.mapr 2,AV.mapr 3,AV.mapr 4,AV.mapr 5]],5,0,false,false⟩,⟨List.map Bl.a X ++ [AV.vec (s.getD i.toNat default).2 3 (List.map Bk.a (s.getD i.toNat default).3)],1,v + 1,false,true⟩,⟨[ag [vi (s.getD i.toNat default).n,AV.vec (s.getD i.toNat default).2 3 (List.map Bk.a (s.getD i.toNat default).3)]],2,0,false,false⟩],[(decide (i < n)) == true,decide (0 <= i),decide (i.toNat < (List.map Sb.a s).length),true,true,true,true,mapKeys IntKind.i64 sm,true,v == v,decide (((List.map Bl.a X).length + 1) * 24 <= 1099511627776)],[((List.map Sb.a s).get?Internal i.toNat = some (ag [vi (s.getD i.toNat default).n,AV.vec (s.getD i.toNat default).2 3 (List.map Bk.a (s.getD i.toNat default).3)]))],_⟩ (by kernel_rfl) (bc (beq_t (i_dec.2 d2)) (bc (i_dec.2 k4) (bc (i6.2 k7) (bc rfl (bc rfl (bc rfl (bc rfl (bc ((i_var _).2 k9) (bc rfl (bc (beq_self_eq_true _) (bc (i11.2 k12) b0))))))))))) (qc (el_map k7) q0) c0 (by (try rw [w13]);(try rw [w15]);all_goals exact H)
 ·have H:=H.2 d2
  obtain ⟨k16,H⟩:=H
  have w17:(List.map Bk.a (Sp.cat X)).length = (Sp.cat X).length:=List.length_map ..
  exact path_wp (G:=given kp71 [(12,1,.call (AV.vec false 3 (List.map Bk.a (Sp.cat X))) none)] []) 1000 [false] ⟨(atC (cd Try.f71) [1,1,1,1,1,1,0,1,0,0]),[(1,AV.ptr 0 0 0 0),(4,AV.ptr 6 0 0 0),(8,AV.vnil),(56,AV.vec false 3 (List.map Bk.a (Sp.cat X))),(57,vi (↑(List.map Bk.a (Sp.cat X)).length:Int)),(58,vi 0)],[⟨[ag [AV.vec g 3 (List.map Bk.a l),AV.vec h 2 (List.map Sb.a s)]],2,0,false,false⟩,⟨sm,2,0,false,true⟩,⟨[],2,0,false,true⟩,⟨[],2,0,false,true⟩,⟨[],2,0,false,true⟩,⟨[],2,0,false,true⟩,⟨[ag [AV.mapr 1,AV.mapr 2,AV.mapr 3,AV.mapr 4,AV.mapr 5]],5,0,false,false⟩,⟨List.map Bl.a X,1,v,true,true⟩],[(decide (i < n)) == false,v == v],[],_⟩ (by kernel_rfl) (bc (beq_f (fun h => d2 (i_dec.1 h))) (bc (beq_self_eq_true _) b0)) q0 (ce (@ev20 (false) (X) k16) c0) (by (try rw [w17]);all_goals exact H)
noncomputable abbrev zTpJ1:=ag [AV.mapr 1,AV.mapr 2,AV.mapr 3,AV.mapr 4,AV.mapr 5]
theorem tvNc (g:Bool) (l:List Bk) (h:Bool) (s:List Sb) (sm:List AV) (o:List Bk) (n i:Int)  (Q:AV -> Heap -> Prop) (H :
  ((i < n) -> (0 <= i) /\
   (i.toNat < o.length) /\
   (Sp.okW (o.getD i.toNat default).3) /\
   ((¬Sp.cE (o.getD i.toNat default).3 = 0) -> Q (tu [AV.nilp,vi (Sp.cE (o.getD i.toNat default).3)]) [{ elems:=[ag [AV.vec g 3 (List.map Bk.a l),AV.vec h 2 (List.map Sb.a s)]],es:=2,ver:=0,frozen:=false,clean:=false },{ elems:=sm,es:=2,ver:=0,frozen:=false,clean:=true },{ elems:=[],es:=2,ver:=0,frozen:=false,clean:=true },{ elems:=[],es:=2,ver:=0,frozen:=false,clean:=true },{ elems:=[],es:=2,ver:=0,frozen:=false,clean:=true },{ elems:=[],es:=2,ver:=0,frozen:=false,clean:=true },{ elems:=[ag [AV.mapr 1,AV.mapr 2,AV.mapr 3,AV.mapr 4,AV.mapr 5]],es:=5,ver:=0,frozen:=false,clean:=false },{ elems:=[ag [vb (o.getD i.toNat default).1,AV.vec (o.getD i.toNat default).2 2 (List.map Wo.a (o.getD i.toNat default).3),AV.str (o.getD i.toNat default).4]],es:=3,ver:=0,frozen:=false,clean:=false }]) /\
   (¬(¬Sp.cE (o.getD i.toNat default).3 = 0) -> ((Sp.cIs (o.getD i.toNat default).3 = true) -> (-9223372036854775808 <= i + 1 /\ i + 1 <= 9223372036854775807) /\
     Wp M1 (.run fi71 (atC (cd Try.f71) [1,1,1,1,1,1,0,1,0,0]) [(1,AV.ptr 0 0 0 0),(4,AV.ptr 6 0 0 0),(8,AV.row 8 0),(56,AV.vec false 3 (List.map Bk.a o)),(57,vi n),(58,vi (i + 1))] [{ elems:=[ag [AV.vec g 3 (List.map Bk.a l),AV.vec h 2 (List.map Sb.a s)]],es:=2,ver:=0,frozen:=false,clean:=false },{ elems:=sm,es:=2,ver:=0,frozen:=false,clean:=true },{ elems:=[],es:=2,ver:=0,frozen:=false,clean:=true },{ elems:=[],es:=2,ver:=0,frozen:=false,clean:=true },{ elems:=[],es:=2,ver:=0,frozen:=false,clean:=true },{ elems:=[],es:=2,ver:=0,frozen:=false,clean:=true },{ elems:=[ag [AV.mapr 1,AV.mapr 2,AV.mapr 3,AV.mapr 4,AV.mapr 5]],es:=5,ver:=0,frozen:=false,clean:=false },{ elems:=[ag [vb (o.getD i.toNat default).1,AV.vec (o.getD i.toNat default).2 2 (List.map Wo.a (o.getD i.toNat default).3),AV.str (o.getD i.toNat default).4]],es:=3,ver:=0,frozen:=false,clean:=false },{ elems:=[vi (Sp.cN (o.getD i.toNat default).3)],es:=1,ver:=0,frozen:=false,clean:=true }]) Q) /\
    (¬(Sp.cIs (o.getD i.toNat default).3 = true) -> (-9223372036854775808 <= i + 1 /\ i + 1 <= 9223372036854775807) /\
     Wp M1 (.run fi71 (atC (cd Try.f71) [1,1,1,1,1,1,0,1,0,0]) [(1,AV.ptr 0 0 0 0),(4,AV.ptr 6 0 0 0),(8,AV.vnil),(56,AV.vec false 3 (List.map Bk.a o)),(57,vi n),(58,vi (i + 1))] [{ elems:=[ag [AV.vec g 3 (List.map Bk.a l),AV.vec h 2 (List.map Sb.a s)]],es:=2,ver:=0,frozen:=false,clean:=false },{ elems:=sm,es:=2,ver:=0,frozen:=false,clean:=true },{ elems:=[],es:=2,ver:=0,frozen:=false,clean:=true },{ elems:=[],es:=2,ver:=0,frozen:=false,clean:=true },{ elems:=[],es:=2,ver:=0,frozen:=false,clean:=true },{ elems:=[],es:=2,ver:=0,frozen:=false,clean:=true },{ elems:=[ag [AV.mapr 1,AV.mapr 2,AV.mapr 3,AV.mapr 4,AV.mapr 5]],es:=5,ver:=0,frozen:=false,clean:=false },{ elems:=[ag [vb (o.getD i.toNat default).1,AV.vec (o.getD i.toNat default).2 2 (List.map Wo.a (o.getD i.toNat default).3),AV.str (o.getD i.toNat default).4]],es:=3,ver:=0,frozen:=false,clean:=false }]) Q))) /\
  (¬(i < n) -> tvNe_at (g) (l) (h) (s) (sm) Q)) :
 tvNc_at g l h s sm o n i Q:=by
 unfold tvNc_at
 rcases xm (i < n) with d2 | d2
 ·have H:=H.1 d2
  obtain ⟨k4,H⟩:=H
  have w5:(List.map Bk.a o).length = o.length:=List.length_map ..
  have i6:(decide (i.toNat < (List.map Bk.a o).length)) = true ↔ (i.toNat < o.length):=(by (try rw [w5]);all_goals exact i_dec)
  obtain ⟨k7,H⟩:=H
  obtain ⟨k8,H⟩:=H
  refine path_wp (G:=given kp71 [(14,1,.elem (ag [vb (o.getD i.toNat default).1,AV.vec (o.getD i.toNat default).2 2 (List.map Wo.a (o.getD i.toNat default).3),AV.str (o.getD i.toNat default).4])),(15,1,.call (tu [vi (Sp.cN (o.getD i.toNat default).3),vi (Sp.cT (o.getD i.toNat default).3),vb (Sp.cIs (o.getD i.toNat default).3),vi (Sp.cE (o.getD i.toNat default).3)]) none)] []) 14 [true] ⟨(atC (cd Try.f71) [1,1,1,1,1,1,0,1,0,0,1,1,0,0,1,1,0,1]),[(1,AV.ptr 0 0 0 0),(4,AV.ptr 6 0 0 0),(8,AV.vnil),(11,vi (Sp.cN (o.getD i.toNat default).3)),(13,vb (Sp.cIs (o.getD i.toNat default).3)),(14,vi (Sp.cE (o.getD i.toNat default).3)),(56,AV.vec false 3 (List.map Bk.a o)),(57,vi n),(58,vi i),(70,vb (Sp.cE (o.getD i.toNat default).3 != 0))],[⟨[ag [AV.vec g 3 (List.map Bk.a l),AV.vec h 2 (List.map Sb.a s)]],2,0,false,false⟩,⟨sm,2,0,false,true⟩,⟨[],2,0,false,true⟩,⟨[],2,0,false,true⟩,⟨[],2,0,false,true⟩,⟨[],2,0,false,true⟩,⟨[zTpJ1],5,0,false,false⟩,⟨[ag [vb (o.getD i.toNat default).1,AV.vec (o.getD i.toNat default).2 2 (List.map Wo.a (o.getD i.toNat default).3),AV.str (o.getD i.toNat default).4]],3,0,false,false⟩],_,[((List.map Bk.a o).get?Internal i.toNat = some (ag [vb (o.getD i.toNat default).1,AV.vec (o.getD i.toNat default).2 2 (List.map Wo.a (o.getD i.toNat default).3),AV.str (o.getD i.toNat default).4]))],_⟩ (by kernel_rfl) (bc (beq_t (i_dec.2 d2)) (bc (i_dec.2 k4) (bc (i6.2 k7) (bc rfl (bc rfl b0))))) (qc (el_map k7) q0) (ce (@ev13 ((o.getD i.toNat default).1) ((o.getD i.toNat default).2) ((o.getD i.toNat default).3) ((o.getD i.toNat default).4) k8) c0) ?_
  rcases xm (¬Sp.cE (o.getD i.toNat default).3 = 0) with d10 | d10
  ·have H:=H.1 d10
   exact path_ret (G:=given kp71 [] []) 1000 [true] (k:=((atC (cd Try.f71) [1,1,1,1,1,1,0,1,0,0,1,1,0,0,1,1,0,1,0,1])).tail) (env':=[(2,AV.nilp),(3,vi (Sp.cE (o.getD i.toNat default).3))]) (L':=[⟨[ag [AV.vec g 3 (List.map Bk.a l),AV.vec h 2 (List.map Sb.a s)]],2,0,false,false⟩,⟨sm,2,0,false,true⟩,⟨[],2,0,false,true⟩,⟨[],2,0,false,true⟩,⟨[],2,0,false,true⟩,⟨[],2,0,false,true⟩,⟨[zTpJ1],5,0,false,false⟩,⟨[ag [vb (o.getD i.toNat default).1,AV.vec (o.getD i.toNat default).2 2 (List.map Wo.a (o.getD i.toNat default).3),AV.str (o.getD i.toNat default).4]],3,0,false,false⟩]) (asm:=[(Sp.cE (o.getD i.toNat default).3 != 0) == true]) (eqs:=[]) (calls:=[]) (tu [AV.nilp,vi (Sp.cE (o.getD i.toNat default).3)]) (by kernel_rfl) (by kernel_rfl) (allB_cons (beq_t (i_ne.2 d10)) allB_nil) allP_nil allC_nil H
  ·have H:=H.2 d10
   rcases xm (Sp.cIs (o.getD i.toNat default).3 = true) with d12 | d12
   ·have H:=H.1 d12
    obtain ⟨k13,H⟩:=H
    have w14:wi (i + 1) = i + 1:=wI64 k13
    exact path_wp (G:=given kp71 [] []) 1000 [false,true] ⟨(atC (cd Try.f71) [1,1,1,1,1,1,0,1,0,0]),[(1,AV.ptr 0 0 0 0),(4,AV.ptr 6 0 0 0),(8,AV.row 8 0),(56,AV.vec false 3 (List.map Bk.a o)),(57,vi n),(58,vi (wi (i + 1)))],[⟨[ag [AV.vec g 3 (List.map Bk.a l),AV.vec h 2 (List.map Sb.a s)]],2,0,false,false⟩,⟨sm,2,0,false,true⟩,⟨[],2,0,false,true⟩,⟨[],2,0,false,true⟩,⟨[],2,0,false,true⟩,⟨[],2,0,false,true⟩,⟨[zTpJ1],5,0,false,false⟩,⟨[ag [vb (o.getD i.toNat default).1,AV.vec (o.getD i.toNat default).2 2 (List.map Wo.a (o.getD i.toNat default).3),AV.str (o.getD i.toNat default).4]],3,0,false,false⟩,⟨[vi (Sp.cN (o.getD i.toNat default).3)],1,0,false,true⟩],[(Sp.cE (o.getD i.toNat default).3 != 0) == false,(Sp.cIs (o.getD i.toNat default).3) == true,true],[],_⟩ (by kernel_rfl) (bc (beq_f (fun h => d10 (i_ne.1 h))) (bc (beq_t ((i_var _).2 d12)) (bc rfl b0))) q0 c0 (by (try rw [w14]);all_goals exact H)
   ·have H:=H.2 d12
    obtain ⟨k15,H⟩:=H
    have w16:wi (i + 1) = i + 1:=wI64 k15
    exact path_wp (G:=given kp71 [] []) 1000 [false,false] ⟨(atC (cd Try.f71) [1,1,1,1,1,1,0,1,0,0]),[(1,AV.ptr 0 0 0 0),(4,AV.ptr 6 0 0 0),(8,AV.vnil),(56,AV.vec false 3 (List.map Bk.a o)),(57,vi n),(58,vi (wi (i + 1)))],[⟨[ag [AV.vec g 3 (List.map Bk.a l),AV.vec h 2 (List.map Sb.a s)]],2,0,false,false⟩,⟨sm,2,0,false,true⟩,⟨[],2,0,false,true⟩,⟨[],2,0,false,true⟩,⟨[],2,0,false,true⟩,⟨[],2,0,false,true⟩,⟨[zTpJ1],5,0,false,false⟩,⟨[ag [vb (o.getD i.toNat default).1,AV.vec (o.getD i.toNat default).2 2 (List.map Wo.a (o.getD i.toNat default).3),AV.str (o.getD i.toNat default).4]],3,0,false,false⟩],[(Sp.cE (o.getD i.toNat default).3 != 0) == false,(Sp.cIs (o.getD i.toNat default).3) == false],[],_⟩ (by kernel_rfl) (bc (beq_f (fun h => d10 (i_ne.1 h))) (bc (beq_f (fun h => d12 ((i_var _).1 h))) b0)) q0 c0 (by (try rw [w16]);all_goals exact H)
 ·have H:=H.2 d2
  exact path_wp (G:=given kp71 [] []) 1000 [false] ⟨(atC (cd Try.f71) [1,1,1,1,1,1,1,0,1,0,0]),[(1,AV.ptr 0 0 0 0),(4,AV.ptr 6 0 0 0),(78,AV.vnil),(79,vi 0),(80,vi 0)],[⟨[ag [AV.vec g 3 (List.map Bk.a l),AV.vec h 2 (List.map Sb.a s)]],2,0,false,false⟩,⟨sm,2,0,false,true⟩,⟨[],2,0,false,true⟩,⟨[],2,0,false,true⟩,⟨[],2,0,false,true⟩,⟨[],2,0,false,true⟩,⟨[zTpJ1],5,0,false,false⟩],_,[],_⟩ (by kernel_rfl) (bc (beq_f (fun h => d2 (i_dec.1 h))) b0) q0 c0 (H)
noncomputable abbrev zTpJ2:=ag [AV.mapr 1,AV.mapr 2,AV.mapr 3,AV.mapr 4,AV.mapr 5]
theorem tvNd (g:Bool) (l:List Bk) (h:Bool) (s:List Sb) (sm:List AV) (o:List Bk) (q:List Int) (v:Nat) (n i:Int)  (Q:AV -> Heap -> Prop) (H :
  ((i < n) -> (0 <= i) /\
   (i.toNat < o.length) /\
   (Sp.okW (o.getD i.toNat default).3) /\
   ((¬Sp.cE (o.getD i.toNat default).3 = 0) -> Q (tu [AV.nilp,vi (Sp.cE (o.getD i.toNat default).3)]) [{ elems:=[ag [AV.vec g 3 (List.map Bk.a l),AV.vec h 2 (List.map Sb.a s)]],es:=2,ver:=0,frozen:=false,clean:=false },{ elems:=sm,es:=2,ver:=0,frozen:=false,clean:=true },{ elems:=[],es:=2,ver:=0,frozen:=false,clean:=true },{ elems:=[],es:=2,ver:=0,frozen:=false,clean:=true },{ elems:=[],es:=2,ver:=0,frozen:=false,clean:=true },{ elems:=[],es:=2,ver:=0,frozen:=false,clean:=true },{ elems:=[ag [AV.mapr 1,AV.mapr 2,AV.mapr 3,AV.mapr 4,AV.mapr 5]],es:=5,ver:=0,frozen:=false,clean:=false },{ elems:=List.map (vi) q,es:=1,ver:=v,frozen:=false,clean:=true },{ elems:=[ag [vb (o.getD i.toNat default).1,AV.vec (o.getD i.toNat default).2 2 (List.map Wo.a (o.getD i.toNat default).3),AV.str (o.getD i.toNat default).4]],es:=3,ver:=0,frozen:=false,clean:=false }]) /\
   (¬(¬Sp.cE (o.getD i.toNat default).3 = 0) -> ((Sp.cIs (o.getD i.toNat default).3 = true) -> ((q.length + 1) * 8 <= 1099511627776) /\
     (-9223372036854775808 <= i + 1 /\ i + 1 <= 9223372036854775807) /\
     Wp M1 (.run fi71 (atC (cd Try.f71) [1,1,1,1,1,1,0,1,0,0]) [(1,AV.ptr 0 0 0 0),(4,AV.ptr 6 0 0 0),(8,AV.row 7 (v + 1)),(56,AV.vec false 3 (List.map Bk.a o)),(57,vi n),(58,vi (i + 1))] [{ elems:=[ag [AV.vec g 3 (List.map Bk.a l),AV.vec h 2 (List.map Sb.a s)]],es:=2,ver:=0,frozen:=false,clean:=false },{ elems:=sm,es:=2,ver:=0,frozen:=false,clean:=true },{ elems:=[],es:=2,ver:=0,frozen:=false,clean:=true },{ elems:=[],es:=2,ver:=0,frozen:=false,clean:=true },{ elems:=[],es:=2,ver:=0,frozen:=false,clean:=true },{ elems:=[],es:=2,ver:=0,frozen:=false,clean:=true },{ elems:=[ag [AV.mapr 1,AV.mapr 2,AV.mapr 3,AV.mapr 4,AV.mapr 5]],es:=5,ver:=0,frozen:=false,clean:=false },{ elems:=List.map (vi) (q ++ [Sp.cN (o.getD i.toNat default).3]),es:=1,ver:=v + 1,frozen:=false,clean:=true },{ elems:=[ag [vb (o.getD i.toNat default).1,AV.vec (o.getD i.toNat default).2 2 (List.map Wo.a (o.getD i.toNat default).3),AV.str (o.getD i.toNat default).4]],es:=3,ver:=0,frozen:=false,clean:=false }]) Q) /\
    (¬(Sp.cIs (o.getD i.toNat default).3 = true) -> (-9223372036854775808 <= i + 1 /\ i + 1 <= 9223372036854775807) /\
     Wp M1 (.run fi71 (atC (cd Try.f71) [1,1,1,1,1,1,0,1,0,0]) [(1,AV.ptr 0 0 0 0),(4,AV.ptr 6 0 0 0),(8,AV.row 7 v),(56,AV.vec false 3 (List.map Bk.a o)),(57,vi n),(58,vi (i + 1))] [{ elems:=[ag [AV.vec g 3 (List.map Bk.a l),AV.vec h 2 (List.map Sb.a s)]],es:=2,ver:=0,frozen:=false,clean:=false },{ elems:=sm,es:=2,ver:=0,frozen:=false,clean:=true },{ elems:=[],es:=2,ver:=0,frozen:=false,clean:=true },{ elems:=[],es:=2,ver:=0,frozen:=false,clean:=true },{ elems:=[],es:=2,ver:=0,frozen:=false,clean:=true },{ elems:=[],es:=2,ver:=0,frozen:=false,clean:=true },{ elems:=[ag [AV.mapr 1,AV.mapr 2,AV.mapr 3,AV.mapr 4,AV.mapr 5]],es:=5,ver:=0,frozen:=false,clean:=false },{ elems:=List.map (vi) q,es:=1,ver:=v,frozen:=false,clean:=true },{ elems:=[ag [vb (o.getD i.toNat default).1,AV.vec (o.getD i.toNat default).2 2 (List.map Wo.a (o.getD i.toNat default).3),AV.str (o.getD i.toNat default).4]],es:=3,ver:=0,frozen:=false,clean:=false }]) Q))) /\
  (¬(i < n) -> tvNf_at (g) (l) (h) (s) (sm) (q) (v) ((↑q.length:Int)) (0) Q)) :
 tvNd_at g l h s sm o q v n i Q:=by
 unfold tvNd_at
 rcases xm (i < n) with d2 | d2
 ·have H:=H.1 d2
  obtain ⟨k4,H⟩:=H
  have w5:(List.map Bk.a o).length = o.length:=List.length_map ..
  have i6:(decide (i.toNat < (List.map Bk.a o).length)) = true ↔ (i.toNat < o.length):=(by (try rw [w5]);all_goals exact i_dec)
  obtain ⟨k7,H⟩:=H
  obtain ⟨k8,H⟩:=H
  refine path_wp (G:=given kp71 [(14,1,.elem (ag [vb (o.getD i.toNat default).1,AV.vec (o.getD i.toNat default).2 2 (List.map Wo.a (o.getD i.toNat default).3),AV.str (o.getD i.toNat default).4])),(15,1,.call (tu [vi (Sp.cN (o.getD i.toNat default).3),vi (Sp.cT (o.getD i.toNat default).3),vb (Sp.cIs (o.getD i.toNat default).3),vi (Sp.cE (o.getD i.toNat default).3)]) none)] []) 14 [true] ⟨(atC (cd Try.f71) [1,1,1,1,1,1,0,1,0,0,1,1,0,0,1,1,0,1]),[(1,AV.ptr 0 0 0 0),(4,AV.ptr 6 0 0 0),(8,AV.row 7 v),(11,vi (Sp.cN (o.getD i.toNat default).3)),(13,vb (Sp.cIs (o.getD i.toNat default).3)),(14,vi (Sp.cE (o.getD i.toNat default).3)),(56,AV.vec false 3 (List.map Bk.a o)),(57,vi n),(58,vi i),(70,vb (Sp.cE (o.getD i.toNat default).3 != 0))],[⟨[ag [AV.vec g 3 (List.map Bk.a l),AV.vec h 2 (List.map Sb.a s)]],2,0,false,false⟩,⟨sm,2,0,false,true⟩,⟨[],2,0,false,true⟩,⟨[],2,0,false,true⟩,⟨[],2,0,false,true⟩,⟨[],2,0,false,true⟩,⟨[zTpJ2],5,0,false,false⟩,⟨List.map (vi) q,1,v,false,true⟩,⟨[ag [vb (o.getD i.toNat default).1,AV.vec (o.getD i.toNat default).2 2 (List.map Wo.a (o.getD i.toNat default).3),AV.str (o.getD i.toNat default).4]],3,0,false,false⟩],_,[((List.map Bk.a o).get?Internal i.toNat = some (ag [vb (o.getD i.toNat default).1,AV.vec (o.getD i.toNat default).2 2 (List.map Wo.a (o.getD i.toNat default).3),AV.str (o.getD i.toNat default).4]))],_⟩ (by kernel_rfl) (bc (beq_t (i_dec.2 d2)) (bc (i_dec.2 k4) (bc (i6.2 k7) (bc rfl (bc rfl b0))))) (qc (el_map k7) q0) (ce (@ev13 ((o.getD i.toNat default).1) ((o.getD i.toNat default).2) ((o.getD i.toNat default).3) ((o.getD i.toNat default).4) k8) c0) ?_
  rcases xm (¬Sp.cE (o.getD i.toNat default).3 = 0) with d10 | d10
  ·have H:=H.1 d10
   exact path_ret (G:=given kp71 [] []) 1000 [true] (k:=((atC (cd Try.f71) [1,1,1,1,1,1,0,1,0,0,1,1,0,0,1,1,0,1,0,1])).tail) (env':=[(2,AV.nilp),(3,vi (Sp.cE (o.getD i.toNat default).3))]) (L':=[⟨[ag [AV.vec g 3 (List.map Bk.a l),AV.vec h 2 (List.map Sb.a s)]],2,0,false,false⟩,⟨sm,2,0,false,true⟩,⟨[],2,0,false,true⟩,⟨[],2,0,false,true⟩,⟨[],2,0,false,true⟩,⟨[],2,0,false,true⟩,⟨[zTpJ2],5,0,false,false⟩,⟨List.map (vi) q,1,v,false,true⟩,⟨[ag [vb (o.getD i.toNat default).1,AV.vec (o.getD i.toNat default).2 2 (List.map Wo.a (o.getD i.toNat default).3),AV.str (o.getD i.toNat default).4]],3,0,false,false⟩]) (asm:=[(Sp.cE (o.getD i.toNat default).3 != 0) == true]) (eqs:=[]) (calls:=[]) (tu [AV.nilp,vi (Sp.cE (o.getD i.toNat default).3)]) (by kernel_rfl) (by kernel_rfl) (allB_cons (beq_t (i_ne.2 d10)) allB_nil) allP_nil allC_nil H
  ·have H:=H.2 d10
   rcases xm (Sp.cIs (o.getD i.toNat default).3 = true) with d12 | d12
   ·have H:=H.1 d12
    have w13:(List.map (vi) q).length = q.length:=List.length_map ..
    have i14:(decide (((List.map (vi) q).length + 1) * 8 <= 1099511627776)) = true ↔ ((q.length + 1) * 8 <= 1099511627776):=(by (try rw [w13]);all_goals exact i_dec)
    obtain ⟨k15,H⟩:=H
    have w16:List.map (vi) q ++ [vi (Sp.cN (o.getD i.toNat default).3)] = List.map (vi) (q ++ [Sp.cN (o.getD i.toNat default).3]):=(lm_app rfl rfl)
    obtain ⟨k17,H⟩:=H
    have w18:wi (i + 1) = i + 1:=wI64 k17
    exact path_wp (G:=given kp71 [] []) 1000 [false,true] ⟨(atC (cd Try.f71) [1,1,1,1,1,1,0,1,0,0]),[(1,AV.ptr 0 0 0 0),(4,AV.ptr 6 0 0 0),(8,AV.row 7 (v + 1)),(56,AV.vec false 3 (List.map Bk.a o)),(57,vi n),(58,vi (wi (i + 1)))],[⟨[ag [AV.vec g 3 (List.map Bk.a l),AV.vec h 2 (List.map Sb.a s)]],2,0,false,false⟩,⟨sm,2,0,false,true⟩,⟨[],2,0,false,true⟩,⟨[],2,0,false,true⟩,⟨[],2,0,false,true⟩,⟨[],2,0,false,true⟩,⟨[zTpJ2],5,0,false,false⟩,⟨List.map (vi) q ++ [vi (Sp.cN (o.getD i.toNat default).3)],1,v + 1,false,true⟩,⟨[ag [vb (o.getD i.toNat default).1,AV.vec (o.getD i.toNat default).2 2 (List.map Wo.a (o.getD i.toNat default).3),AV.str (o.getD i.toNat default).4]],3,0,false,false⟩],[(Sp.cE (o.getD i.toNat default).3 != 0) == false,(Sp.cIs (o.getD i.toNat default).3) == true,v == v,decide (((List.map (vi) q).length + 1) * 8 <= 1099511627776)],[],_⟩ (by kernel_rfl) (bc (beq_f (fun h => d10 (i_ne.1 h))) (bc (beq_t ((i_var _).2 d12)) (bc (beq_self_eq_true _) (bc (i14.2 k15) b0)))) q0 c0 (by (try rw [w16]);(try rw [w18]);all_goals exact H)
   ·have H:=H.2 d12
    obtain ⟨k19,H⟩:=H
    have w20:wi (i + 1) = i + 1:=wI64 k19
    exact path_wp (G:=given kp71 [] []) 1000 [false,false] ⟨(atC (cd Try.f71) [1,1,1,1,1,1,0,1,0,0]),[(1,AV.ptr 0 0 0 0),(4,AV.ptr 6 0 0 0),(8,AV.row 7 v),(56,AV.vec false 3 (List.map Bk.a o)),(57,vi n),(58,vi (wi (i + 1)))],[⟨[ag [AV.vec g 3 (List.map Bk.a l),AV.vec h 2 (List.map Sb.a s)]],2,0,false,false⟩,⟨sm,2,0,false,true⟩,⟨[],2,0,false,true⟩,⟨[],2,0,false,true⟩,⟨[],2,0,false,true⟩,⟨[],2,0,false,true⟩,⟨[zTpJ2],5,0,false,false⟩,⟨List.map (vi) q,1,v,false,true⟩,⟨[ag [vb (o.getD i.toNat default).1,AV.vec (o.getD i.toNat default).2 2 (List.map Wo.a (o.getD i.toNat default).3),AV.str (o.getD i.toNat default).4]],3,0,false,false⟩],[(Sp.cE (o.getD i.toNat default).3 != 0) == false,(Sp.cIs (o.getD i.toNat default).3) == false],[],_⟩ (by kernel_rfl) (bc (beq_f (fun h => d10 (i_ne.1 h))) (bc (beq_f (fun h => d12 ((i_var _).1 h))) b0)) q0 c0 (by (try rw [w20]);all_goals exact H)
 ·have H:=H.2 d2
  have w21:(List.map (vi) q).length = q.length:=List.length_map ..
  exact path_wp (G:=given kp71 [] []) 1000 [false] ⟨(atC (cd Try.f71) [1,1,1,1,1,1,1,0,1,0,0]),[(1,AV.ptr 0 0 0 0),(4,AV.ptr 6 0 0 0),(78,AV.row 7 v),(79,vi (↑(List.map (vi) q).length:Int)),(80,vi 0)],[⟨[ag [AV.vec g 3 (List.map Bk.a l),AV.vec h 2 (List.map Sb.a s)]],2,0,false,false⟩,⟨sm,2,0,false,true⟩,⟨[],2,0,false,true⟩,⟨[],2,0,false,true⟩,⟨[],2,0,false,true⟩,⟨[],2,0,false,true⟩,⟨[zTpJ2],5,0,false,false⟩,⟨List.map (vi) q,1,v,false,true⟩],[(decide (i < n)) == false,v == v],[],_⟩ (by kernel_rfl) (bc (beq_f (fun h => d2 (i_dec.1 h))) (bc (beq_self_eq_true _) b0)) q0 c0 (by (try rw [w21]);all_goals exact H)
theorem tvNe (g:Bool) (l:List Bk) (h:Bool) (s:List Sb) (sm:List AV)  (Q:AV -> Heap -> Prop) (H :
  Wp M1 (.run fi71 (atC (cd Try.f71) [1,1,1,1,1,1,1,1,0,1,0,0]) [(4,AV.ptr 6 0 0 0),(97,AV.vec h 2 (List.map Sb.a s)),(98,vi (↑s.length:Int)),(99,vi 0)] [{ elems:=[ag [AV.vec g 3 (List.map Bk.a l),AV.vec h 2 (List.map Sb.a s)]],es:=2,ver:=0,frozen:=false,clean:=false },{ elems:=sm,es:=2,ver:=0,frozen:=false,clean:=true },{ elems:=[],es:=2,ver:=0,frozen:=false,clean:=true },{ elems:=[],es:=2,ver:=0,frozen:=false,clean:=true },{ elems:=[],es:=2,ver:=0,frozen:=false,clean:=true },{ elems:=[],es:=2,ver:=0,frozen:=false,clean:=true },{ elems:=[ag [AV.mapr 1,AV.mapr 2,AV.mapr 3,AV.mapr 4,AV.mapr 5]],es:=5,ver:=0,frozen:=false,clean:=false }]) Q) :
 tvNe_at g l h s sm Q:=by
 unfold tvNe_at
 have w1:(List.map Sb.a s).length = s.length:=List.length_map ..
 exact path_wp (G:=given kp71 [] []) 1000 [false] ⟨(atC (cd Try.f71) [1,1,1,1,1,1,1,1,0,1,0,0]),[(4,AV.ptr 6 0 0 0),(97,AV.vec h 2 (List.map Sb.a s)),(98,vi (↑(List.map Sb.a s).length:Int)),(99,vi 0)],[⟨[ag [AV.vec g 3 (List.map Bk.a l),AV.vec h 2 (List.map Sb.a s)]],2,0,false,false⟩,⟨sm,2,0,false,true⟩,⟨[],2,0,false,true⟩,⟨[],2,0,false,true⟩,⟨[],2,0,false,true⟩,⟨[],2,0,false,true⟩,⟨[ag [AV.mapr 1,AV.mapr 2,AV.mapr 3,AV.mapr 4,AV.mapr 5]],5,0,false,false⟩],_,[],_⟩ (by kernel_rfl) (bc rfl (bc rfl b0)) q0 c0 (by (try rw [w1]);all_goals exact H)
noncomputable abbrev zTpJ3:=ag [AV.mapr 1,AV.mapr 2,AV.mapr 3,AV.mapr 4,AV.mapr 5]
theorem tvNf (g:Bool) (l:List Bk) (h:Bool) (s:List Sb) (sm:List AV) (q:List Int) (v:Nat) (n i:Int)  (Q:AV -> Heap -> Prop) (H :
  ((i < n) -> (0 <= i) /\
   (i.toNat < q.length) /\
   (mapKeys IntKind.i64 sm = true) /\
   ((¬(mapHas (q.getD i.toNat default) sm = true)) -> Q (tu [AV.nilp,vi 4]) [{ elems:=[ag [AV.vec g 3 (List.map Bk.a l),AV.vec h 2 (List.map Sb.a s)]],es:=2,ver:=0,frozen:=false,clean:=false },{ elems:=sm,es:=2,ver:=0,frozen:=false,clean:=true },{ elems:=[],es:=2,ver:=0,frozen:=false,clean:=true },{ elems:=[],es:=2,ver:=0,frozen:=false,clean:=true },{ elems:=[],es:=2,ver:=0,frozen:=false,clean:=true },{ elems:=[],es:=2,ver:=0,frozen:=false,clean:=true },{ elems:=[ag [AV.mapr 1,AV.mapr 2,AV.mapr 3,AV.mapr 4,AV.mapr 5]],es:=5,ver:=0,frozen:=false,clean:=false },{ elems:=List.map (vi) q,es:=1,ver:=v,frozen:=false,clean:=true }]) /\
   (¬(¬(mapHas (q.getD i.toNat default) sm = true)) -> (-9223372036854775808 <= i + 1 /\ i + 1 <= 9223372036854775807) /\
    tvNf_at (g) (l) (h) (s) (sm) (q) (v) (n) (i + 1) Q)) /\
  (¬(i < n) -> Wp M1 (.run fi71 (atC (cd Try.f71) [1,1,1,1,1,1,1,1,0,1,0,0]) [(4,AV.ptr 6 0 0 0),(97,AV.vec h 2 (List.map Sb.a s)),(98,vi (↑s.length:Int)),(99,vi 0)] [{ elems:=[ag [AV.vec g 3 (List.map Bk.a l),AV.vec h 2 (List.map Sb.a s)]],es:=2,ver:=0,frozen:=false,clean:=false },{ elems:=sm,es:=2,ver:=0,frozen:=false,clean:=true },{ elems:=[],es:=2,ver:=0,frozen:=false,clean:=true },{ elems:=[],es:=2,ver:=0,frozen:=false,clean:=true },{ elems:=[],es:=2,ver:=0,frozen:=false,clean:=true },{ elems:=[],es:=2,ver:=0,frozen:=false,clean:=true },{ elems:=[ag [AV.mapr 1,AV.mapr 2,AV.mapr 3,AV.mapr 4,AV.mapr 5]],es:=5,ver:=0,frozen:=false,clean:=false },{ elems:=List.map (vi) q,es:=1,ver:=v,frozen:=false,clean:=true }]) Q)) :
 tvNf_at g l h s sm q v n i Q:=by
 unfold tvNf_at
 rcases xm (i < n) with d2 | d2
 ·have H:=H.1 d2
  obtain ⟨k4,H⟩:=H
  have w5:(List.map (vi) q).length = q.length:=List.length_map ..
  have i6:(decide (i.toNat < (List.map (vi) q).length)) = true ↔ (i.toNat < q.length):=(by (try rw [w5]);all_goals exact i_dec)
  obtain ⟨k7,H⟩:=H
  obtain ⟨k9,H⟩:=H
  refine path_wp (G:=given kp71 [(23,1,.elem (vi (q.getD i.toNat default)))] []) 13 [true] ⟨(atC (cd Try.f71) [1,1,1,1,1,1,1,0,1,0,0,1,1,0,0,1,1,1]),[(1,AV.ptr 0 0 0 0),(4,AV.ptr 6 0 0 0),(78,AV.row 7 v),(79,vi n),(80,vi i),(94,vb !mapHas (q.getD i.toNat default) sm)],[⟨[ag [AV.vec g 3 (List.map Bk.a l),AV.vec h 2 (List.map Sb.a s)]],2,0,false,false⟩,⟨sm,2,0,false,true⟩,⟨[],2,0,false,true⟩,⟨[],2,0,false,true⟩,⟨[],2,0,false,true⟩,⟨[],2,0,false,true⟩,⟨[zTpJ3],5,0,false,false⟩,⟨List.map (vi) q,1,v,false,true⟩],[(decide (i < n)) == true,v == v,decide (0 <= i),decide (i.toNat < (List.map (vi) q).length),v == v,true,mapKeys IntKind.i64 sm],[((List.map (vi) q).get?Internal i.toNat = some (vi (q.getD i.toNat default)))],_⟩ (by kernel_rfl) (bc (beq_t (i_dec.2 d2)) (bc (beq_self_eq_true _) (bc (i_dec.2 k4) (bc (i6.2 k7) (bc (beq_self_eq_true _) (bc rfl (bc ((i_var _).2 k9) b0))))))) (qc (el_map k7) q0) c0 ?_
  rcases xm (¬(mapHas (q.getD i.toNat default) sm = true)) with d11 | d11
  ·have H:=H.1 d11
   exact path_ret (G:=given kp71 [] []) 1000 [true] (k:=((atC (cd Try.f71) [1,1,1,1,1,1,1,0,1,0,0,1,1,0,0,1,1,1,0,1])).tail) (env':=[(2,AV.nilp),(3,vi 4)]) (L':=[⟨[ag [AV.vec g 3 (List.map Bk.a l),AV.vec h 2 (List.map Sb.a s)]],2,0,false,false⟩,⟨sm,2,0,false,true⟩,⟨[],2,0,false,true⟩,⟨[],2,0,false,true⟩,⟨[],2,0,false,true⟩,⟨[],2,0,false,true⟩,⟨[zTpJ3],5,0,false,false⟩,⟨List.map (vi) q,1,v,false,true⟩]) (asm:=[(!mapHas (q.getD i.toNat default) sm) == true]) (eqs:=[]) (calls:=[]) (tu [AV.nilp,vi 4]) (by kernel_rfl) (by kernel_rfl) (allB_cons (beq_t ((i_not (i_var _)).2 d11)) allB_nil) allP_nil allC_nil H
  ·have H:=H.2 d11
   obtain ⟨k12,H⟩:=H
   have w13:wi (i + 1) = i + 1:=wI64 k12
   exact path_wp (G:=given kp71 [] []) 1000 [false] ⟨(atC (cd Try.f71) [1,1,1,1,1,1,1,0,1,0,0]),[(1,AV.ptr 0 0 0 0),(4,AV.ptr 6 0 0 0),(78,AV.row 7 v),(79,vi n),(80,vi (wi (i + 1)))],[⟨[ag [AV.vec g 3 (List.map Bk.a l),AV.vec h 2 (List.map Sb.a s)]],2,0,false,false⟩,⟨sm,2,0,false,true⟩,⟨[],2,0,false,true⟩,⟨[],2,0,false,true⟩,⟨[],2,0,false,true⟩,⟨[],2,0,false,true⟩,⟨[zTpJ3],5,0,false,false⟩,⟨List.map (vi) q,1,v,false,true⟩],[(!mapHas (q.getD i.toNat default) sm) == false],[],_⟩ (by kernel_rfl) (bc (beq_f (fun h => d11 ((i_not (i_var _)).1 h))) b0) q0 c0 (by (try rw [w13]);all_goals exact H)
 ·have H:=H.2 d2
  have w14:(List.map Sb.a s).length = s.length:=List.length_map ..
  exact path_wp (G:=given kp71 [] []) 1000 [false] ⟨(atC (cd Try.f71) [1,1,1,1,1,1,1,1,0,1,0,0]),[(4,AV.ptr 6 0 0 0),(97,AV.vec h 2 (List.map Sb.a s)),(98,vi (↑(List.map Sb.a s).length:Int)),(99,vi 0)],[⟨[ag [AV.vec g 3 (List.map Bk.a l),AV.vec h 2 (List.map Sb.a s)]],2,0,false,false⟩,⟨sm,2,0,false,true⟩,⟨[],2,0,false,true⟩,⟨[],2,0,false,true⟩,⟨[],2,0,false,true⟩,⟨[],2,0,false,true⟩,⟨[zTpJ3],5,0,false,false⟩,⟨List.map (vi) q,1,v,false,true⟩],_,[],_⟩ (by kernel_rfl) (bc (beq_f (fun h => d2 (i_dec.1 h))) (bc rfl b0)) q0 c0 (by (try rw [w14]);all_goals exact H)
noncomputable abbrev zTpJ4:=ag [AV.mapr 0,AV.mapr 1,AV.mapr 2,AV.mapr 3,AV.mapr 4]
theorem tvNg (h:Bool) (s:List Sb) (sm st dp sz:List AV) (n i:Int) (r:Bool) (st1 dp1 sz1:List AV) (Q:AV -> Heap -> Prop) (H :
  ((i < n) -> (0 <= i) /\
   (i.toNat < s.length) /\
   (Ev M1 (Conf.own 84 [AV.ptr 0 0 0 0,vi (s.getD i.toNat default).n] [{ elems:=[ag [AV.mapr 1,AV.mapr 2,AV.mapr 3,AV.mapr 4,AV.mapr 5]],es:=5,ver:=0,frozen:=false,clean:=false },{ elems:=sm,es:=2,ver:=0,frozen:=false,clean:=true },{ elems:=st,es:=2,ver:=0,frozen:=false,clean:=true },{ elems:=dp,es:=2,ver:=0,frozen:=false,clean:=true },{ elems:=sz,es:=2,ver:=0,frozen:=false,clean:=true },{ elems:=[],es:=2,ver:=0,frozen:=false,clean:=true }]) (vb r) [{ elems:=[ag [AV.mapr 1,AV.mapr 2,AV.mapr 3,AV.mapr 4,AV.mapr 5]],es:=5,ver:=0,frozen:=false,clean:=false },{ elems:=sm,es:=2,ver:=0,frozen:=false,clean:=true },{ elems:=st1,es:=2,ver:=0,frozen:=false,clean:=true },{ elems:=dp1,es:=2,ver:=0,frozen:=false,clean:=true },{ elems:=sz1,es:=2,ver:=0,frozen:=false,clean:=true },{ elems:=[],es:=2,ver:=0,frozen:=false,clean:=true }]) /\
   ((¬(r = true)) -> Q (tu [AV.nilp,vi 12]) [{ elems:=sm,es:=2,ver:=0,frozen:=false,clean:=true },{ elems:=st1,es:=2,ver:=0,frozen:=false,clean:=true },{ elems:=dp1,es:=2,ver:=0,frozen:=false,clean:=true },{ elems:=sz1,es:=2,ver:=0,frozen:=false,clean:=true },{ elems:=[],es:=2,ver:=0,frozen:=false,clean:=true },{ elems:=[ag [AV.mapr 0,AV.mapr 1,AV.mapr 2,AV.mapr 3,AV.mapr 4]],es:=5,ver:=0,frozen:=false,clean:=false },{ elems:=[ag [vi (s.getD i.toNat default).n,AV.vec (s.getD i.toNat default).2 3 (List.map Bk.a (s.getD i.toNat default).3)]],es:=2,ver:=0,frozen:=false,clean:=false }]) /\
   (¬(¬(r = true)) -> (-9223372036854775808 <= i + 1 /\ i + 1 <= 9223372036854775807) /\
    Wp M1 (.run fi71 (atC (cd Try.f71) [1,1,1,1,1,1,1,1,0,1,0,0]) [(4,AV.ptr 5 0 0 0),(97,AV.vec h 2 (List.map Sb.a s)),(98,vi n),(99,vi (i + 1))] [{ elems:=sm,es:=2,ver:=0,frozen:=false,clean:=true },{ elems:=st1,es:=2,ver:=0,frozen:=false,clean:=true },{ elems:=dp1,es:=2,ver:=0,frozen:=false,clean:=true },{ elems:=sz1,es:=2,ver:=0,frozen:=false,clean:=true },{ elems:=[],es:=2,ver:=0,frozen:=false,clean:=true },{ elems:=[ag [AV.mapr 0,AV.mapr 1,AV.mapr 2,AV.mapr 3,AV.mapr 4]],es:=5,ver:=0,frozen:=false,clean:=false },{ elems:=[ag [vi (s.getD i.toNat default).n,AV.vec (s.getD i.toNat default).2 3 (List.map Bk.a (s.getD i.toNat default).3)]],es:=2,ver:=0,frozen:=false,clean:=false }]) Q)) /\
  (¬(i < n) -> Q (tu [AV.ptr 5 0 0 0,vi 0]) [{ elems:=sm,es:=2,ver:=0,frozen:=false,clean:=true },{ elems:=st,es:=2,ver:=0,frozen:=false,clean:=true },{ elems:=dp,es:=2,ver:=0,frozen:=false,clean:=true },{ elems:=sz,es:=2,ver:=0,frozen:=false,clean:=true },{ elems:=[],es:=2,ver:=0,frozen:=false,clean:=true },{ elems:=[ag [AV.mapr 0,AV.mapr 1,AV.mapr 2,AV.mapr 3,AV.mapr 4]],es:=5,ver:=0,frozen:=false,clean:=false }])) :
 tvNg_at h s sm st dp sz n i Q:=by
 unfold tvNg_at
 rcases xm (i < n) with d2 | d2
 ·have H:=H.1 d2
  obtain ⟨k4,H⟩:=H
  have w5:(List.map Sb.a s).length = s.length:=List.length_map ..
  have i6:(decide (i.toNat < (List.map Sb.a s).length)) = true ↔ (i.toNat < s.length):=(by (try rw [w5]);all_goals exact i_dec)
  obtain ⟨k7,H⟩:=H
  obtain ⟨k8,H⟩:=H
  refine path_wp (G:=given kp71 [(30,1,.elem (ag [vi (s.getD i.toNat default).n,AV.vec (s.getD i.toNat default).2 3 (List.map Bk.a (s.getD i.toNat default).3)])),(31,3,(.call (.bool r) (some [⟨[.agg [.mapr 1,.mapr 2,.mapr 3,.mapr 4,.mapr 5]],5,0,false,false⟩,⟨sm,2,0,false,true⟩,⟨st1,2,0,false,true⟩,⟨dp1,2,0,false,true⟩,⟨sz1,2,0,false,true⟩,⟨[],2,0,false,true⟩]):Ans))] []) 11 [true] ⟨(atC (cd Try.f71) [1,1,1,1,1,1,1,1,0,1,0,0,1,1,0,0,1,1]),[(4,AV.ptr 5 0 0 0),(97,AV.vec h 2 (List.map Sb.a s)),(98,vi n),(99,vi i),(107,vb !r)],[⟨sm,2,0,false,true⟩,⟨st1,2,0,false,true⟩,⟨dp1,2,0,false,true⟩,⟨sz1,2,0,false,true⟩,⟨[],2,0,false,true⟩,⟨[zTpJ4],5,0,false,false⟩,⟨[ag [vi (s.getD i.toNat default).n,AV.vec (s.getD i.toNat default).2 3 (List.map Bk.a (s.getD i.toNat default).3)]],2,0,false,false⟩],_,[((List.map Sb.a s).get?Internal i.toNat = some (ag [vi (s.getD i.toNat default).n,AV.vec (s.getD i.toNat default).2 3 (List.map Bk.a (s.getD i.toNat default).3)]))],[⟨true,true,84,[AV.ptr 0 0 0 0,vi (s.getD i.toNat default).n],[⟨[ag [AV.mapr 1,AV.mapr 2,AV.mapr 3,AV.mapr 4,AV.mapr 5]],5,0,false,false⟩,⟨sm,2,0,false,true⟩,⟨st,2,0,false,true⟩,⟨dp,2,0,false,true⟩,⟨sz,2,0,false,true⟩,⟨[],2,0,false,true⟩],vb r,[⟨[ag [AV.mapr 1,AV.mapr 2,AV.mapr 3,AV.mapr 4,AV.mapr 5]],5,0,false,false⟩,⟨sm,2,0,false,true⟩,⟨st1,2,0,false,true⟩,⟨dp1,2,0,false,true⟩,⟨sz1,2,0,false,true⟩,⟨[],2,0,false,true⟩]⟩]⟩ (by kernel_rfl) (bc (beq_t (i_dec.2 d2)) (bc (i_dec.2 k4) (bc (i6.2 k7) (bc rfl (bc rfl b0))))) (qc (el_map k7) q0) (cc (fun _ => k8) c0) ?_
  rcases xm (¬(r = true)) with d10 | d10
  ·have H:=H.1 d10
   exact path_ret (G:=given kp71 [] []) 1000 [true] (k:=((atC (cd Try.f71) [1,1,1,1,1,1,1,1,0,1,0,0,1,1,0,0,1,1,0,1])).tail) (env':=[(2,AV.nilp),(3,vi 12)]) (L':=[⟨sm,2,0,false,true⟩,⟨st1,2,0,false,true⟩,⟨dp1,2,0,false,true⟩,⟨sz1,2,0,false,true⟩,⟨[],2,0,false,true⟩,⟨[zTpJ4],5,0,false,false⟩,⟨[ag [vi (s.getD i.toNat default).n,AV.vec (s.getD i.toNat default).2 3 (List.map Bk.a (s.getD i.toNat default).3)]],2,0,false,false⟩]) (asm:=[(!r) == true]) (eqs:=[]) (calls:=[]) (tu [AV.nilp,vi 12]) (by kernel_rfl) (by kernel_rfl) (allB_cons (beq_t ((i_not (i_var _)).2 d10)) allB_nil) allP_nil allC_nil H
  ·have H:=H.2 d10
   obtain ⟨k11,H⟩:=H
   have w12:wi (i + 1) = i + 1:=wI64 k11
   exact path_wp (G:=given kp71 [] []) 1000 [false] ⟨(atC (cd Try.f71) [1,1,1,1,1,1,1,1,0,1,0,0]),[(4,AV.ptr 5 0 0 0),(97,AV.vec h 2 (List.map Sb.a s)),(98,vi n),(99,vi (wi (i + 1)))],[⟨sm,2,0,false,true⟩,⟨st1,2,0,false,true⟩,⟨dp1,2,0,false,true⟩,⟨sz1,2,0,false,true⟩,⟨[],2,0,false,true⟩,⟨[zTpJ4],5,0,false,false⟩,⟨[ag [vi (s.getD i.toNat default).n,AV.vec (s.getD i.toNat default).2 3 (List.map Bk.a (s.getD i.toNat default).3)]],2,0,false,false⟩],[(!r) == false],[],_⟩ (by kernel_rfl) (bc (beq_f (fun h => d10 ((i_not (i_var _)).1 h))) b0) q0 c0 (by (try rw [w12]);all_goals exact H)
 ·have H:=H.2 d2
  exact path_ret (G:=given kp71 [] []) 1000 [false] (k:=((atC (cd Try.f71) [1,1,1,1,1,1,1,1,1,1])).tail) (env':=[(2,AV.ptr 5 0 0 0),(3,vi 0)]) (L':=[⟨sm,2,0,false,true⟩,⟨st,2,0,false,true⟩,⟨dp,2,0,false,true⟩,⟨sz,2,0,false,true⟩,⟨[],2,0,false,true⟩,⟨[zTpJ4],5,0,false,false⟩]) (asm:=[(decide (i < n)) == false]) (eqs:=[]) (calls:=[]) (tu [AV.ptr 5 0 0 0,vi 0]) (by kernel_rfl) (by kernel_rfl) (allB_cons (beq_f (fun h => d2 (i_dec.1 h))) allB_nil) allP_nil allC_nil H
end Go.Av

namespace Go.Av
open Go.RowKit
def FrsQ (d:AV) (K:Heap):AV -> Heap -> Prop:=fun v L => ∃ ns rows,getRows L ns = some rows /\ ns.Nodup /\ (∀ r ∈ rowsA v,r ∈ ns) /\ (∀ row ∈ rows,∀ r ∈ rowRefs row,r ∈ ns) /\ renA (posOf ns) v = d /\ rows.map (renRow (posOf ns)) = K
theorem frs_sound {M:Mach} {f:FuncId} {args:List AV} {d:AV} {K:Heap} (ih:OwnQ M f args [] (FrsQ d K)):OwnQ M f args [] (isR d K):=by
 intro S cargs h1 h2 h3
 have hrows:getRows S.L [] = some []:=rfl
 have hcl:∀ row ∈ ([]:List Row),∀ r ∈ rowRefs row,r ∈ ([]:List Nat):=fun row hr => by cases hr
 obtain ⟨hSc,_,hrelc⟩:=sub_ok h1 hrows List.nodup_nil hcl
 have hno:∀ {a v},Rel S a v -> rowsA a = []:=fun {a v} h => by
  cases hr:rowsA a with
  | nil => rfl
  | cons r l => have:=rel_in h r (by rw [hr];exact List.mem_cons_self ..);rw [h2] at this;simp at this
 have hrel':RelL ⟨S.base,accOf S [],[],subβ S.β [],S.w⟩ args cargs:=by
  refine ⟨h3.1,fun i c cv hc hcv => ?_⟩
  have hri:=hno (h3.2 i c cv hc hcv)
  have:=hrelc c cv (h3.2 i c cv hc hcv) fun r hr => by rw [hri] at hr;cases hr
  rwa [renA_self fun r hr => by rw [hri] at hr;cases hr] at this
 obtain ⟨m1,m2⟩:=ih ⟨S.base,accOf S [],[],subβ S.β [],S.w⟩ cargs hSc rfl hrel'
 refine ⟨m1,Calls.mono m2 fun e w' he => ?_⟩
 cases e with
 | panicked c => exact he.elim
 | outgrown => exact he.elim
 | returned cv =>
  obtain ⟨v',L1,β1,⟨ns,rows,hn,hnd,hv,hr,hd,hK⟩,n1,n2,n3⟩:=he
  obtain ⟨k1,k2,k3⟩:=back_ok (S1:=⟨S.base,accOf S [],L1,β1,w'⟩) (ns:=ns) (new:=rows) (old:=[]) h1 hrows List.nodup_nil hcl n1 n2 hnd (by simp) rfl hn
   (fun r hr1 q hq => by simp only [List.nil_append] at hr1;exact .inr (hr r hr1 q hq))
  have hb:∀ r,backOf S.L.length [] ns r = posOf ns r:=fun r => by rw [back_ge (by simp),h2];simp
  have hLL:backL S.L [] ns [] rows = K:=by
   rw [<- hK]
   unfold backL
   rw [h2]
   simp only [List.map_nil,putAt,List.nil_append]
   refine List.map_congr_left fun row _ => ?_
   unfold renRow
   cases row.clean with
   | true => rfl
   | false => simp only [cond_false];rw [renL_ext (g:=posOf ns) row.elems fun r _ => by have:=hb r;rw [h2] at this;exact this]
  have k3':=k3 v' cv n3 fun r hr1 => .inr (hv r hr1)
  rw [renA_ext (g:=posOf ns) v' fun r _ => hb r,hd] at k3'
  rw [hLL] at k1 k2 k3'
  exact ⟨d,K,_,⟨rfl,rfl⟩,k1,k2,k3'⟩
theorem own_frs {M:Mach} (hm:(M.P ()).follows .mixedOrders = true) {f:FuncId} {args:List AV} {d:AV} {K:Heap} (h:Wp M (.own f args []) (FrsQ d K)):Ev M (.own f args []) d K:=
 .sem (frs_sound (wp_sound hm (c:=.own f args []) h))
theorem getRows_map {L K:Heap} {f:Nat -> Nat} (hb:∀ (r:Nat) row,L[r]? = some row -> K[f r]? = some (renRow f row)):∀ {ns:List Nat} {rows:List Row},getRows L ns = some rows -> getRows K (ns.map f) = some (rows.map (renRow f))
 | [],rows,h => by simp only [getRows,Option.some.injEq] at h;subst h;rfl
 | r :: ns,rows,h => by
  simp only [getRows] at h
  split at h
  ·rename_i row l h1 h2
   simp only [Option.some.injEq] at h;subst h
   rw [List.map_cons,getRows,hb _ _ h1,getRows_map hb h2];rfl
  ·simp at h
theorem posOf_map {f:Nat -> Nat}:∀ {ns:List Nat} {r:Nat},(∀ a ∈ ns,f a = f r -> a = r) -> posOf (ns.map f) (f r) = posOf ns r
 | [],_,_ => rfl
 | x :: l,r,h => by
  rw [List.map_cons]
  simp only [posOf]
  by_cases e:x = r
  ·subst e;simp
  ·have e1:(x == r) = false:=by simpa using e
   have e2:(f x == f r) = false:=by
    have:f x ≠ f r:=fun y => e (h x (by simp) y)
    simpa using this
   rw [e1,e2,cond_false,cond_false,posOf_map fun a ha => h a (List.mem_cons_of_mem _ ha)]
theorem renRow_renRow (f g:Nat -> Nat) (row:Row):renRow g (renRow f row) = renRow (fun r => g (f r)) row:=by
 unfold renRow
 cases h:row.clean with
 | true => simp [h]
 | false => simp only [cond_false];rw [renL_renL]
theorem renRow_ext' {f g:Nat -> Nat} {row:Row} (h:∀ r ∈ rowRefs row,f r = g r):renRow f row = renRow g row:=by
 unfold renRow rowRefs at *
 cases hc:row.clean with
 | true => rfl
 | false => rw [hc,cond_false] at h;simp only [cond_false];rw [renL_ext row.elems h]
theorem wp_narrowF {M:Mach} {fi:Fi} {k:List Item} {env env':Vars} {L Lc:Heap} {d:AV} {K:Heap} (rs:List Nat) (hn:narrowIn L rs env = some (env',Lc)) (h:Wp M (.run fi k env' Lc) (FrsQ d K)):Wp M (.run fi k env L) (FrsQ d K):=by
 refine .narrow rs env' Lc hn (.mono h fun v L1 ⟨ns,rows,q1,q2,q3,q4,q5,q6⟩ => ?_)
 unfold narrowIn at hn
 split at hn
 ·rename_i rows0 hrows
  split at hn
  ·rename_i hc
   simp only [Bool.and_eq_true] at hc
   have hnd:=(noDup_iff rs).1 hc.1
   obtain ⟨g1,g2⟩:=getRows_spec hrows
   have hlt:∀ (j:Nat) r,rs[j]? = some r -> r < L.length:=fun j r hj => by
    obtain ⟨row,k1,_⟩:=g2 j r hj
    exact (List.getElem?_eq_some_iff.1 k1).1
   have hinj:∀ a b,backAt L.length rs a = backAt L.length rs b -> a = b:=fun a b hab => by
    have e1:∀ r,r < rs.length -> backAt L.length rs r = rs.getD r 0 /\ rs[r]? = some (rs.getD r 0):=fun r hr => by
     refine ⟨?_,by rw [List.getD_eq_getElem?_getD,List.getElem?_eq_getElem hr];rfl⟩
     unfold backAt;rw [Nat.blt_eq.mpr hr];rfl
    have e2:∀ r,¬r < rs.length -> backAt L.length rs r = L.length + (r - rs.length):=fun r hr => by
     have:Nat.blt r rs.length = false:=by
      cases hb:Nat.blt r rs.length with
      | false => rfl
      | true => exact (hr (Nat.blt_eq.mp hb)).elim
     unfold backAt;rw [this];rfl
    by_cases ha:a < rs.length <;> by_cases hb:b < rs.length
    ·obtain ⟨a1,a2⟩:=e1 a ha
     obtain ⟨b1,b2⟩:=e1 b hb
     rw [a1,b1] at hab
     rw [<- posOf_at hnd a2,<- posOf_at hnd b2,hab]
    ·obtain ⟨a1,a2⟩:=e1 a ha
     have:=hlt _ _ a2
     rw [a1,e2 b hb] at hab;omega
    ·obtain ⟨b1,b2⟩:=e1 b hb
     have:=hlt _ _ b2
     rw [b1,e2 a ha] at hab;omega
    ·rw [e2 a ha,e2 b hb] at hab;omega
   have hpos:∀ r,posOf (ns.map (backAt L.length rs)) (backAt L.length rs r) = posOf ns r:=fun r => posOf_map fun a _ h => hinj _ _ h
   refine ⟨ns.map (backAt L.length rs),rows.map (renRow (backAt L.length rs)),getRows_map (fun r row h => back_at hrows hnd r row h) q1,?_,fun r hr => ?_,fun row hr r hrr => ?_,?_,?_⟩
   ·refine (List.pairwise_map).2 (q2.imp fun hab h => hab (hinj _ _ h))
   ·rw [rowsA_ren] at hr
    obtain ⟨a,ha,rfl⟩:=List.mem_map.1 hr
    exact List.mem_map_of_mem (q3 a ha)
   ·obtain ⟨row0,h0,rfl⟩:=List.mem_map.1 hr
    rw [refs_ren] at hrr
    obtain ⟨a,ha,rfl⟩:=List.mem_map.1 hrr
    exact List.mem_map_of_mem (q4 row0 h0 a ha)
   ·rw [renA_renA,<- q5]
    exact renA_ext v fun r _ => hpos r
   ·rw [List.map_map,<- q6]
    refine List.map_congr_left fun row _ => ?_
    rw [Function.comp,renRow_renRow]
    exact renRow_ext' fun r _ => hpos r
  ·simp at hn
 ·simp at hn
theorem frs_end {v:AV} {L:Heap} {d:AV} {K:Heap} (ns:List Nat) (h:(match getRows L ns with
  | some rows => noDup ns && ((rowsA v).all ns.contains && rows.all fun row => (rowRefs row).all ns.contains)
  | none => false) = true) (hd:renA (posOf ns) v = d) (hK:(match getRows L ns with
  | some rows => rows.map (renRow (posOf ns))
  | none => []) = K):FrsQ d K v L:=by
 split at h
 ·rename_i rows hr
  simp only [Bool.and_eq_true,List.all_eq_true,List.contains_iff_mem] at h
  rw [hr] at hK
  exact ⟨ns,rows,hr,(noDup_iff ns).1 h.1,h.2.1,h.2.2,hd,hK⟩
 ·cases h
end Go.Av

namespace Go.Av
open Go.Proofs
theorem valM_put {n:Int} {v:AV}:∀ {ms:List AV},mapKeys .i64 ms = true -> mapKeys .i64 (mapPut .i64 n v ms) = true /\ (∀ c,mapHas c (mapPut .i64 n v ms) = (decide (c = n) || mapHas c ms)) /\ ∀ z c,mapVal z c (mapPut .i64 n v ms) = if c = n then v else mapVal z c ms
 | [],_ => ⟨by simp [mapPut,mapKeys],fun c => by
   simp only [mapPut,mapHas]
   by_cases h:c = n
   ·subst h;simp
   ·rw [show (c == n) = false by simpa using h,decide_eq_false h];rfl,fun z c => by
   simp only [mapPut,mapVal]
   by_cases h:c = n
   ·subst h;simp
   ·rw [if_neg h,show (c == n) = false by simpa using h];rfl⟩
 | y :: l,h1 => by
  unfold mapKeys at h1
  split at h1
  ·rename_i e;cases e
  ·rename_i j m u l' e
   simp only [List.cons.injEq] at e
   obtain ⟨rfl,rfl⟩:=e
   simp only [Bool.and_eq_true,decide_eq_true_eq] at h1
   obtain ⟨rfl,h1⟩:=h1
   simp only [mapPut]
   by_cases hn:n = m
   ·subst hn
    simp only [beq_self_eq_true,cond_true]
    refine ⟨by simp [mapKeys,h1],fun c => ?_,fun z c => ?_⟩
    ·simp only [mapHas]
     by_cases h:c = n
     ·subst h;simp
     ·rw [show (c == n) = false by simpa using h,decide_eq_false h];rfl
    ·simp only [mapVal]
     by_cases h:c = n
     ·subst h;simp
     ·rw [if_neg h,show (c == n) = false by simpa using h];rfl
   ·have e:(n == m) = false:=by simpa using hn
    rw [e,cond_false]
    obtain ⟨q1,q2,q3⟩:=valM_put (n:=n) (v:=v) h1
    refine ⟨by simp [mapKeys,q1],fun c => ?_,fun z c => ?_⟩
    ·simp only [mapHas]
     by_cases h:c = m
     ·subst h
      have:(c == c) = true:=by simp
      rw [this,cond_true,cond_true,Bool.or_true]
     ·have:(c == m) = false:=by simpa using h
      rw [this,cond_false,cond_false,q2]
    ·simp only [mapVal]
     by_cases h:c = m
     ·subst h
      have:(c == c) = true:=by simp
      rw [this,cond_true,cond_true,if_neg (fun e => hn e.symm)]
     ·have:(c == m) = false:=by simpa using h
      rw [this,cond_false,cond_false,q3]
  ·cases h1
namespace Sp
def putS (m:List AV) (x:Sb):List AV:=mapPut .i64 x.n (.vec x.f 3 (x.bl.map Bk.a)) m
def smOf (s:List Sb):List AV:=s.foldl putS []
def bodS (n:Int) (a:List Bk) (x:Sb):List Bk:=if x.n = n then x.bl else a
def bod (s:List Sb) (n:Int):List Bk:=s.foldl (bodS n) []
def nums (s:List Sb):List Int:=s.map fun x => x.n
def xe (l:List Bk) (s:List Sb):Int:=
 if ¬prpB l s = true then 1 else if (blks l s).any badB = true then 1 else if (blks l s).any (lostB s) = true then 4 else if (s.all fun x => (V (bod s) s.length x.n).isSome) = true then 0 else 12
end Sp
theorem pair_of {s:List Sb} (h:Sp.repB s = false):s.Pairwise fun x y => x.n ≠ y.n:=by
 rw [List.pairwise_iff_getElem]
 intro i j hi hj hij e
 unfold Sp.repB at h
 rw [List.any_eq_false] at h
 refine h j (by rw [List.mem_range'_1];omega) ?_
 unfold Sp.anyP
 rw [List.any_eq_true]
 refine ⟨s[i],?_,?_⟩
 ·rw [List.mem_take_iff_getElem]
  exact ⟨i,by omega,rfl⟩
 ·unfold Sp.sIs
  rw [List.getD_eq_getElem?_getD,List.getElem?_eq_getElem hj]
  exact decide_eq_true e.symm
theorem smOf_spec:∀ (s:List Sb) (ms:List AV),mapKeys .i64 ms = true -> mapKeys .i64 (s.foldl Sp.putS ms) = true /\ (∀ c,mapHas c (s.foldl Sp.putS ms) = (Sp.anyP (Sp.isN c) s || mapHas c ms)) /\
  (∀ z c,(∀ x ∈ s,x.n ≠ c) -> mapVal z c (s.foldl Sp.putS ms) = mapVal z c ms) /\ ((s.Pairwise fun x y => x.n ≠ y.n) -> ∀ z,∀ x ∈ s,mapVal z x.n (s.foldl Sp.putS ms) = .vec x.f 3 (x.bl.map Bk.a))
 | [],ms,h => ⟨h,fun _ => rfl,fun _ _ _ => rfl,fun _ _ x hx => by cases hx⟩
 | y :: s,ms,h => by
  obtain ⟨a1,a2,a3⟩:=valM_put (n:=y.n) (v:=.vec y.f 3 (y.bl.map Bk.a)) h
  obtain ⟨b1,b2,b3,b4⟩:=smOf_spec s (Sp.putS ms y) a1
  rw [List.foldl_cons]
  refine ⟨b1,fun c => ?_,fun z c hc => ?_,fun hp z x hx => ?_⟩
  ·rw [b2,Sp.putS,a2]
   unfold Sp.anyP
   rw [List.any_cons,<- Bool.or_assoc,Bool.or_comm (s.any _)]
   unfold Sp.isN
   rw [show decide (c = y.n) = decide (y.n = c) from by rw [Bool.eq_iff_iff];simp [eq_comm]]
  ·rw [b3 z c fun x hx => hc x (List.mem_cons_of_mem _ hx),Sp.putS,a3,if_neg fun e => hc y (by simp) e.symm]
  ·rw [List.pairwise_cons] at hp
   rcases List.mem_cons.1 hx with rfl | hx
   ·rw [b3 z x.n fun w hw e => hp.1 w hw e.symm,Sp.putS,a3,if_pos rfl]
   ·exact b4 hp.2 z x hx
theorem bod_spec:∀ (s:List Sb) (n:Int) (a:List Bk),((∀ x ∈ s,x.n ≠ n) -> s.foldl (Sp.bodS n) a = a) /\ ((s.Pairwise fun x y => x.n ≠ y.n) -> ∀ x ∈ s,x.n = n -> s.foldl (Sp.bodS n) a = x.bl)
 | [],_,_ => ⟨fun _ => rfl,fun _ x hx => by cases hx⟩
 | y :: s,n,a => by
  obtain ⟨b1,b2⟩:=bod_spec s n (Sp.bodS n a y)
  rw [List.foldl_cons]
  refine ⟨fun h => ?_,fun hp x hx e => ?_⟩
  ·rw [b1 fun x hx => h x (List.mem_cons_of_mem _ hx),Sp.bodS,if_neg (h y (by simp))]
  ·rw [List.pairwise_cons] at hp
   rcases List.mem_cons.1 hx with rfl | hx
   ·rw [b1 fun w hw e2 => hp.1 w hw (e.trans e2.symm),Sp.bodS,if_pos e]
   ·exact b2 hp.2 x hx e
theorem bod_at {s:List Sb} (h:Sp.repB s = false) {x:Sb} (hx:x ∈ s):Sp.bod s x.n = x.bl:=(bod_spec s x.n []).2 (pair_of h) x hx rfl
theorem nums_of {s:List Sb} {n:Int}:0 <= Sp.fnd s n ↔ n ∈ Sp.nums s:=by
 have:=fnd_any s n
 unfold Sp.nums
 rw [List.mem_map]
 constructor
 ·intro h
  rw [decide_eq_true h] at this
  unfold Sp.anyP at this
  obtain ⟨x,hx,e⟩:=List.any_eq_true.1 this.symm
  exact ⟨x,hx,of_decide_eq_true e⟩
 ·rintro ⟨x,hx,e⟩
  have h:Sp.anyP (Sp.isN n) s = true:=List.any_eq_true.2 ⟨x,hx,decide_eq_true e⟩
  rw [h] at this
  exact of_decide_eq_true this
theorem sub_all {l:List Bk} {s:List Sb} (hs:s.length <= 1000) (ho:Sp.okSs s) (hr:Sp.repB s = false) (hl:(Sp.blks l s).any (Sp.lostB s) = false):MSub (Sp.bod s) (Sp.nums s) (Sp.smOf s):=by
 rw [blks_any,Bool.or_eq_false_iff] at hl
 obtain ⟨c1,c2,c3,c4⟩:=smOf_spec s [] rfl
 refine ⟨c1,by unfold Sp.nums;rw [List.length_map];omega,fun n hn b hb k => ?_,fun n hn => ?_⟩
 ·obtain ⟨x,hx,rfl⟩:=List.mem_map.1 hn
  rw [bod_at hr hx] at hb
  have:=hl.2
  rw [List.any_eq_false] at this
  exact nums_of.1 (found_of (Bool.eq_false_iff.2 (this x hx)) b hb k)
 ·obtain ⟨x,hx,rfl⟩:=List.mem_map.1 hn
  rw [bod_at hr hx]
  exact ⟨ho.2 x hx,x.f,c4 (pair_of hr) _ x hx⟩
theorem newx_D {h:Bool} {s:List Sb} (hm:MSub (Sp.bod s) (Sp.nums s) (Sp.smOf s)) (hs:s.length <= 1000):∀ (c i:Nat) (st dp sz:List AV),i + c = s.length -> MInv (Sp.bod s) st dp sz -> (∀ m,mapI m st = 0 \/ mapI m st = 1 \/ mapI m st = 2) -> (∀ m,mapI m st ≠ 1) -> (∀ x ∈ s.take i,mapI x.n st = 2) ->
  (((∃ x ∈ s,∀ k,(Sp.V (Sp.bod s) k x.n).isSome = false) /\ tvNg_at h s (Sp.smOf s) st dp sz s.length i (FrsQ (.tup [.nilp,.int .i64 12]) [])) \/
   ∃ st' dp' sz',tvNg_at h s (Sp.smOf s) st dp sz s.length i (FrsQ (.tup [.ptr 0 0 0 0,.int .i64 0]) (XH (Sp.smOf s) st' dp' sz' [])) /\ MInv (Sp.bod s) st' dp' sz' /\ ∀ x ∈ s,mapI x.n st' = 2):=by
 intro c
 induction c with
 | zero =>
  intro i st dp sz hi hI h3 hg hp
  rw [List.take_of_length_le (by omega)] at hp
  refine .inr ⟨st,dp,sz,?_,hI,hp⟩
  exact tvNg _ _ _ _ _ _ _ _ true [] [] [] _ ⟨fun h => by omega,fun _ => frs_end [5,0,1,2,3,4] (by kernel_rfl) rfl rfl⟩
 | succ c ih =>
  intro i st dp sz hi hI h3 hg hp
  have hx:s.getD i default ∈ s:=getD_mem (by omega)
  have hn:(s.getD i default).n ∈ Sp.nums s:=List.mem_map_of_mem hx
  obtain ⟨r,st1,dp1,sz1,a1,a2,a3,a4,a5⟩:=measure_ev (dn:=[]) hm (Sp.nums s).length st dp sz _ hI h3 hn List.countP_le_length
  cases r with
  | false =>
   refine .inl ⟨⟨_,hx,fun k => ?_⟩,?_⟩
   ·cases e:(Sp.V (Sp.bod s) k (s.getD i default).n).isSome with
    | false => rfl
    | true => obtain ⟨m,m1,_⟩:=a5 rfl k e;exact (hg m m1).elim
   ·refine tvNg _ _ _ _ _ _ _ _ false st1 dp1 sz1 _ ⟨fun _ => ?_,fun h => by omega⟩
    rw [Int.toNat_natCast]
    exact ⟨by omega,by omega,a1,fun _ => frs_end [] (by kernel_rfl) rfl rfl,fun y => (y (by simp)).elim⟩
  | true =>
   obtain ⟨b1,b2,b3⟩:=a4 rfl
   have hI':=ih (i + 1) st1 dp1 sz1 (by omega) a2 a3 (fun m e => hg m (b3 m e)) (fun x hx' => by
    rw [List.take_succ_eq_append_getElem (show i < s.length by omega)] at hx'
    rcases List.mem_append.1 hx' with hx' | hx'
    ·have:=hp x hx'
     rw [b2 _ (by omega)];exact this
    ·rw [List.mem_singleton] at hx'
     rw [List.getD_eq_getElem?_getD,List.getElem?_eq_getElem (show i < s.length by omega)] at b1
     rw [hx'];exact b1)
   have step:∀ {d K},tvNg_at h s (Sp.smOf s) st1 dp1 sz1 s.length ((i + 1:Nat):Int) (FrsQ d K) -> tvNg_at h s (Sp.smOf s) st dp sz s.length i (FrsQ d K):=fun {d K} H => by
    refine tvNg _ _ _ _ _ _ _ _ true st1 dp1 sz1 _ ⟨fun _ => ?_,fun h => by omega⟩
    rw [Int.toNat_natCast]
    exact ⟨by omega,by omega,a1,fun y => (y rfl).elim,fun _ => ⟨by omega,wp_narrowF [0,1,2,3,4,5] (by kernel_rfl) H⟩⟩
   rcases hI' with ⟨e1,e2⟩ | ⟨st',dp',sz',e1,e2⟩
   ·exact .inl ⟨e1,step e2⟩
   ·exact .inr ⟨st',dp',sz',step e1,e2⟩
end Go.Av

namespace Go.Av
open Go.Proofs
namespace Sp
def calls (o:List Bk):List Int:=(o.filter fun b => cIs b.ws).map fun b => cN b.ws
def noHas (sm:List AV) (n:Int):Bool:=!mapHas n sm
end Sp
def AftC (h:Bool) (s:List Sb) (sm:List AV) (d:AV) (K:Heap) (q:List Int):Prop:=
 (q.any (Sp.noHas sm) = true -> d = .tup [.nilp,.int .i64 4] /\ K = []) /\ (q.any (Sp.noHas sm) = false -> tvNg_at h s sm [] [] [] s.length 0 (FrsQ d K))
def AftB (h:Bool) (s:List Sb) (sm:List AV) (d:AV) (K:Heap) (o:List Bk) (q:List Int):Prop:=
 (o.any Sp.badB = true -> d = .tup [.nilp,.int .i64 1] /\ K = []) /\ (o.any Sp.badB = false -> AftC h s sm d K (q ++ Sp.calls o))
theorem tvNf_loop {g h:Bool} {l:List Bk} {s:List Sb} {sm:List AV} {d:AV} {K:Heap} {q:List Int} {v:Nat} (hk:mapKeys .i64 sm = true) (hql:q.length <= 1000000):∀ (c i:Nat),i + c = q.length -> AftC h s sm d K (q.drop i) -> tvNf_at g l h s sm q v q.length i (FrsQ d K):=by
 intro c
 induction c with
 | zero =>
  intro i hi hq
  rw [List.drop_eq_nil_of_le (by omega)] at hq
  exact tvNf _ _ _ _ _ _ _ _ _ _ ⟨fun h => by omega,fun _ => wp_narrowF [1,2,3,4,5,6] (by kernel_rfl) (hq.2 rfl)⟩
 | succ c ih =>
  intro i hi hq
  rw [drop_getD (show i < q.length by omega)] at hq
  refine tvNf _ _ _ _ _ _ _ _ _ _ ⟨fun _ => ?_,fun h => by omega⟩
  rw [Int.toNat_natCast]
  refine ⟨by omega,by omega,hk,fun y => ?_,fun y => ⟨by omega,ih (i + 1) (by omega) ⟨fun k => hq.1 ?_,fun k => hq.2 ?_⟩⟩⟩
  ·obtain ⟨e1,e2⟩:=hq.1 (by rw [List.any_cons,Sp.noHas,Bool.eq_false_iff.2 y];rfl)
   subst e1;subst e2
   exact frs_end [] (by kernel_rfl) rfl rfl
  ·rw [List.any_cons,k,Bool.or_true]
  ·rw [List.any_cons,k,Sp.noHas,Classical.not_not.1 y];rfl
theorem cE_01 (ws:List Wo):Sp.cE ws = 0 \/ Sp.cE ws = 1:=by unfold Sp.cE;split <;> simp
theorem aftB_step {h:Bool} {s:List Sb} {sm:List AV} {d:AV} {K:Heap} {x:Bk} {o:List Bk} {q:List Int} (hB:AftB h s sm d K (x :: o) q) :
  (¬Sp.cE x.ws = 0 -> d = .tup [.nilp,.int .i64 (Sp.cE x.ws)] /\ K = []) /\ (Sp.cE x.ws = 0 -> (Sp.cIs x.ws = true -> AftB h s sm d K o (q ++ [Sp.cN x.ws])) /\ (¬Sp.cIs x.ws = true -> AftB h s sm d K o q)):=by
 obtain ⟨h1,h2⟩:=hB
 rw [List.any_cons] at h1 h2
 refine ⟨fun y => ?_,fun y => ?_⟩
 ·have:=h1 (by unfold Sp.badB;rw [decide_eq_true y];rfl)
  rcases cE_01 x.ws with e | e
  ·exact (y e).elim
  ·rw [e];exact this
 ·have hb:Sp.badB x = false:=by unfold Sp.badB;rw [y];rfl
  rw [hb,Bool.false_or] at h1 h2
  refine ⟨fun k => ⟨h1,fun z => ?_⟩,fun k => ⟨h1,fun z => ?_⟩⟩
  ·have:=h2 z
   unfold Sp.calls at this ⊢
   rw [List.filter_cons_of_pos (by simpa using k),List.map_cons] at this
   rw [List.append_assoc];exact this
  ·have:=h2 z
   unfold Sp.calls at this ⊢
   rw [List.filter_cons_of_neg (by simpa using k)] at this
   exact this
theorem tvNd_loop {g h:Bool} {l:List Bk} {s:List Sb} {sm:List AV} {d:AV} {K:Heap} {o:List Bk} (hk:mapKeys .i64 sm = true) (ho:Sp.okBs o):∀ (c i:Nat) (q:List Int) (v:Nat),i + c = o.length -> q.length <= i -> AftB h s sm d K (o.drop i) q -> tvNd_at g l h s sm o q v o.length i (FrsQ d K):=by
 have hol:=ho.1
 intro c
 induction c with
 | zero =>
  intro i q v hi hql hq
  rw [List.drop_eq_nil_of_le (by omega)] at hq
  have:=hq.2 rfl
  rw [show Sp.calls [] = [] from rfl,List.append_nil] at this
  exact tvNd _ _ _ _ _ _ _ _ _ _ _ ⟨fun h => by omega,fun _ => tvNf_loop hk (by omega) q.length 0 (by omega) (by rw [List.drop_zero];exact this)⟩
 | succ c ih =>
  intro i q v hi hql hq
  have hw:=ho.2 _ (getD_mem (show i < o.length by omega))
  rw [drop_getD (show i < o.length by omega)] at hq
  obtain ⟨s1,s2⟩:=aftB_step hq
  refine tvNd _ _ _ _ _ _ _ _ _ _ _ ⟨fun _ => ?_,fun h => by omega⟩
  rw [Int.toNat_natCast]
  refine ⟨by omega,by omega,hw,fun y => ?_,fun y => ?_⟩
  ·obtain ⟨e1,e2⟩:=s1 y
   subst e1;subst e2
   exact frs_end [] (by kernel_rfl) rfl rfl
  ·obtain ⟨t1,t2⟩:=s2 (Classical.not_not.1 y)
   refine ⟨fun k => ⟨by omega,by omega,?_⟩,fun k => ⟨by omega,?_⟩⟩
   ·exact wp_narrowF [0,1,2,3,4,5,6,7] (by kernel_rfl) (ih (i + 1) _ (v + 1) (by omega) (by simp;omega) (t1 k))
   ·exact wp_narrowF [0,1,2,3,4,5,6,7] (by kernel_rfl) (ih (i + 1) _ v (by omega) (by omega) (t2 k))
theorem tvNc_loop {g h:Bool} {l:List Bk} {s:List Sb} {sm:List AV} {d:AV} {K:Heap} {o:List Bk} (hk:mapKeys .i64 sm = true) (ho:Sp.okBs o):∀ (c i:Nat),i + c = o.length -> AftB h s sm d K (o.drop i) [] -> tvNc_at g l h s sm o o.length i (FrsQ d K):=by
 have hol:=ho.1
 intro c
 induction c with
 | zero =>
  intro i hi hq
  rw [List.drop_eq_nil_of_le (by omega)] at hq
  have:=(hq.2 rfl).2 rfl
  exact tvNc _ _ _ _ _ _ _ _ _ ⟨fun h => by omega,fun _ => tvNe _ _ _ _ _ _ (wp_narrowF [1,2,3,4,5,6] (by kernel_rfl) this)⟩
 | succ c ih =>
  intro i hi hq
  have hw:=ho.2 _ (getD_mem (show i < o.length by omega))
  rw [drop_getD (show i < o.length by omega)] at hq
  obtain ⟨s1,s2⟩:=aftB_step hq
  refine tvNc _ _ _ _ _ _ _ _ _ ⟨fun _ => ?_,fun h => by omega⟩
  rw [Int.toNat_natCast]
  refine ⟨by omega,by omega,hw,fun y => ?_,fun y => ?_⟩
  ·obtain ⟨e1,e2⟩:=s1 y
   subst e1;subst e2
   exact frs_end [] (by kernel_rfl) rfl rfl
  ·obtain ⟨t1,t2⟩:=s2 (Classical.not_not.1 y)
   refine ⟨fun k => ⟨by omega,?_⟩,fun k => ⟨by omega,?_⟩⟩
   ·exact wp_narrowF [0,1,2,3,4,5,6,8] (by kernel_rfl) (tvNd_loop (g:=g) (l:=l) hk ho c (i + 1) [Sp.cN (o.getD i default).ws] 0 (by omega) (by simp) (t1 k))
   ·exact wp_narrowF [0,1,2,3,4,5,6] (by kernel_rfl) (ih (i + 1) (by omega) (t2 k))
def Sp.blS (s:List Sb):List Bl:=s.map fun x => ⟨x.f,x.bl⟩
theorem cat_blks (g:Bool) (l:List Bk) (s:List Sb):Sp.cat (⟨g,l⟩ :: Sp.blS s) = Sp.blks l s:=by
 unfold Sp.cat Sp.blS Sp.blks
 rw [List.flatMap_cons,List.flatMap_map]
theorem tvNb_loop {g h:Bool} {l:List Bk} {s:List Sb} {d:AV} {K:Heap} (hs:s.length <= 1000) (h0:0 < l.length) (ho:Sp.okBs (Sp.blks l s)) (hq:AftB h s (Sp.smOf s) d K (Sp.blks l s) []):∀ (c i:Nat) (v:Nat),i + c = s.length ->
  tvNb_at g l h s (Sp.smOf (s.take i)) (⟨g,l⟩ :: Sp.blS (s.take i)) v s.length i (FrsQ d K):=by
 intro c
 induction c with
 | zero =>
  intro i v hi
  rw [List.take_of_length_le (by omega)]
  refine tvNb _ _ _ _ _ _ _ _ _ _ ⟨fun h => by omega,fun _ => ⟨⟨h0,?_,?_⟩,?_⟩⟩
  ·rw [cat_blks];exact ho.1
  ·unfold Sp.blS;simp;omega
  ·rw [cat_blks]
   exact wp_narrowF [0,1,2,3,4,5,6] (by kernel_rfl) (tvNc_loop (g:=g) (l:=l) (smOf_spec s [] rfl).1 ho (Sp.blks l s).length 0 (by omega) (by rw [List.drop_zero];exact hq))
 | succ c ih =>
  intro i v hi
  have e:s.take (i + 1) = s.take i ++ [s.getD i default]:=by
   rw [List.take_succ_eq_append_getElem (show i < s.length by omega),List.getD_eq_getElem?_getD,List.getElem?_eq_getElem (show i < s.length by omega)];rfl
  have e1:Sp.smOf (s.take (i + 1)) = Sp.putS (Sp.smOf (s.take i)) (s.getD i default):=by
   rw [e];unfold Sp.smOf;rw [List.foldl_append];rfl
  have e2:(⟨g,l⟩ :: Sp.blS (s.take (i + 1)):List Bl) = (⟨g,l⟩ :: Sp.blS (s.take i)) ++ [⟨(s.getD i default).f,(s.getD i default).bl⟩]:=by
   rw [e];unfold Sp.blS;rw [List.map_append];rfl
  have hl:=ih (i + 1) (v + 1) (by omega)
  rw [e1,e2] at hl
  refine tvNb _ _ _ _ _ _ _ _ _ _ ⟨fun _ => ?_,fun h => by omega⟩
  rw [Int.toNat_natCast]
  refine ⟨by omega,by omega,(smOf_spec (s.take i) [] rfl).1,?_,by omega,?_⟩
  ·unfold Sp.blS;simp;omega
  ·exact wp_narrowF [0,1,2,3,4,5,6,7] (by kernel_rfl) hl
theorem tvNx_all {g h:Bool} {l:List Bk} {s:List Sb} {d:AV} {K:Heap} (hl:Sp.okBs l) (hss:Sp.okSs s) (hs:s.length <= 1000) (ho:Sp.okBs (Sp.blks l s)) (hp:¬Sp.prpB l s = true -> d = .tup [.nilp,.int .i64 1] /\ K = []) (hq:Sp.prpB l s = true -> AftB h s (Sp.smOf s) d K (Sp.blks l s) []):tvNx_at g l h s (FrsQ d K):=by
 refine tvNx _ _ _ _ _ ⟨⟨hl,hss⟩,fun y => ?_,fun y => ?_⟩
 ·obtain ⟨e1,e2⟩:=hp y
  subst e1;subst e2
  exact frs_end [] (by kernel_rfl) rfl rfl
 ·have y':=Classical.not_not.1 y
  have hq:=hq y'
  have h0:0 < l.length:=by
   refine Classical.byContradiction fun z => ?_
   unfold Sp.prpB Sp.ordB at y'
   rw [decide_eq_false z,Bool.false_and,Bool.false_and,Bool.and_false] at y'
   cases y'
  cases s with
  | nil =>
   refine tvNa _ _ _ _ _ _ _ _ ⟨fun z => by simp at z,fun _ => ⟨⟨false,Sp.blks l []⟩,?_,?_⟩⟩
   ·have:=ev20 true [⟨g,l⟩] ⟨h0,by
     have e:=cat_blks g l []
     rw [show Sp.blS [] = [] from rfl] at e
     rw [e];exact ho.1,by simp⟩
    have e:=cat_blks g l []
    rw [show Sp.blS [] = [] from rfl] at e
    rw [e] at this
    exact this
   ·exact wp_narrowF [0,1,2,3,4,5,6] (by kernel_rfl) (tvNc_loop (g:=g) (l:=l) (sm:=[]) rfl ho (Sp.blks l []).length 0 (by omega) (by rw [List.drop_zero];exact hq))
  | cons x s =>
   refine tvNa _ _ _ _ _ _ _ _ ⟨fun _ => ?_,fun z => by simp at z⟩
   refine ⟨by omega,by simp,rfl,by omega,?_⟩
   have:=tvNb_loop (g:=g) hs h0 ho hq s.length 1 0 (by simp;omega)
   exact wp_narrowF [0,1,2,3,4,5,6,8] (by kernel_rfl) this
end Go.Av

namespace Go.Av
open Go.Proofs
def Sp.okN (l:List Bk) (s:List Sb):Prop:=Sp.okBs l /\ Sp.okSs s /\ s.length <= 1000 /\ Sp.okBs (Sp.blks l s)
theorem newx_aft {h:Bool} {l:List Bk} {s:List Sb} {d:AV} {K:Heap} (hp:Sp.prpB l s = true)
  (h1:(Sp.blks l s).any Sp.badB = true -> d = .tup [.nilp,.int .i64 1] /\ K = [])
  (h2:(Sp.blks l s).any Sp.badB = false -> (Sp.blks l s).any (Sp.lostB s) = true -> d = .tup [.nilp,.int .i64 4] /\ K = [])
  (h3:(Sp.blks l s).any Sp.badB = false -> (Sp.blks l s).any (Sp.lostB s) = false -> tvNg_at h s (Sp.smOf s) [] [] [] s.length 0 (FrsQ d K)):AftB h s (Sp.smOf s) d K (Sp.blks l s) []:=by
 have e:(Sp.calls (Sp.blks l s)).any (Sp.noHas (Sp.smOf s)) = (Sp.blks l s).any (Sp.lostB s):=by
  unfold Sp.calls
  rw [List.any_map,List.any_filter]
  congr 1
  funext x
  unfold Sp.lostB Sp.noHas
  show (Sp.cIs x.ws && !mapHas (Sp.cN x.ws) (Sp.smOf s)) = _
  unfold Sp.smOf
  rw [(smOf_spec s [] rfl).2.1]
  rw [show mapHas (Sp.cN x.ws) [] = false from rfl,Bool.or_false,<- fnd_any]
  cases Sp.cIs x.ws with
  | false => rfl
  | true =>
   rw [Bool.true_and,Bool.true_and,<- decide_not]
   exact decide_eq_decide.2 (by omega)
 refine ⟨h1,fun y => ?_⟩
 rw [List.nil_append]
 unfold AftC
 rw [e]
 exact ⟨h2 y,h3 y⟩
theorem xe_ok {l:List Bk} {s:List Sb} (h:Sp.xe l s = 0):Sp.prpB l s = true /\ (Sp.blks l s).any Sp.badB = false /\ (Sp.blks l s).any (Sp.lostB s) = false /\ ∀ x ∈ s,(Sp.V (Sp.bod s) s.length x.n).isSome = true:=by
 unfold Sp.xe at h
 split at h
 ·omega
 rename_i a1
 split at h
 ·omega
 rename_i a2
 split at h
 ·omega
 rename_i a3
 split at h
 ·rename_i a4
  exact ⟨Classical.not_not.1 a1,Bool.eq_false_iff.2 a2,Bool.eq_false_iff.2 a3,fun x hx => List.all_eq_true.1 a4 x hx⟩
 ·omega
theorem prpB_rep {l:List Bk} {s:List Sb} (h:Sp.prpB l s = true):Sp.repB s = false:=by
 unfold Sp.prpB at h
 simp only [Bool.and_eq_true,Bool.not_eq_true'] at h
 exact h.2.2
theorem minv0 (S:Int -> List Bk):MInv S [] [] []:=⟨⟨⟨rfl,rfl⟩,⟨rfl,rfl⟩,⟨rfl,rfl⟩⟩,fun _ => ⟨Int.le_refl 0,by show (0:Int) <= 1000000;omega⟩,fun _ => ⟨Int.le_refl 0,by show (0:Int) <= 20001;omega⟩,fun n h => by cases h⟩
theorem newx_err {g h:Bool} {l:List Bk} {s:List Sb} (hok:Sp.okN l s) (he:Sp.xe l s ≠ 0):Ev M1 (.own 71 [.agg [bsA g l,.vec h 2 (s.map Sb.a)]] []) (.tup [.nilp,.int .i64 (Sp.xe l s)]) []:=by
 obtain ⟨hl,hss,hs,ho⟩:=hok
 refine own_frs hm1 (owncall71 (tvNx_all hl hss hs ho (fun y => ?_) fun y => newx_aft y (fun z => ?_) (fun z w => ?_) fun z w => ?_))
 ·unfold Sp.xe;rw [if_pos y];exact ⟨rfl,rfl⟩
 ·unfold Sp.xe;rw [if_neg (by simp [y]),if_pos z];exact ⟨rfl,rfl⟩
 ·unfold Sp.xe;rw [if_neg (by simp [y]),if_neg (by simp [z]),if_pos w];exact ⟨rfl,rfl⟩
 ·have e:Sp.xe l s = 12:=by
   unfold Sp.xe at he ⊢
   rw [if_neg (by simp [y]),if_neg (by simp [z]),if_neg (by simp [w])] at he ⊢
   split
   ·rename_i k;rw [if_pos k] at he;exact (he rfl).elim
   ·rfl
  have hm:=sub_all hs hss (prpB_rep y) w
  rcases newx_D (h:=h) hm hs s.length 0 [] [] [] (by omega) (minv0 _) (fun _ => .inl rfl) (fun _ h => by cases h) (fun x hx => by simp at hx) with ⟨_,e2⟩ | ⟨st,dp,sz,_,e2,e3⟩
  ·rw [e];exact e2
  ·unfold Sp.xe at e
   rw [if_neg (by simp [y]),if_neg (by simp [z]),if_neg (by simp [w])] at e
   split at e
   ·cases e
   ·rename_i k
    refine (k (List.all_eq_true.2 fun x hx => ?_)).elim
    obtain ⟨j,hj⟩:=e2.2.2.2 x.n (e3 x hx)
    have:=V_pig hm.2.2.1 (List.mem_map_of_mem hx) (by rw [hj];rfl:(Sp.V (Sp.bod s) j x.n).isSome = true)
    rw [Sp.nums,List.length_map] at this
    exact this
theorem newx_ok {g h:Bool} {l:List Bk} {s:List Sb} (hok:Sp.okN l s) (he:Sp.xe l s = 0):∃ st dp sz,Ev M1 (.own 71 [.agg [bsA g l,.vec h 2 (s.map Sb.a)]] []) (.tup [.ptr 0 0 0 0,.int .i64 0]) (XH (Sp.smOf s) st dp sz []) /\ MInv (Sp.bod s) st dp sz /\ ∀ x ∈ s,mapI x.n st = 2:=by
 obtain ⟨hl,hss,hs,ho⟩:=hok
 obtain ⟨a1,a2,a3,a4⟩:=xe_ok he
 have hm:=sub_all hs hss (prpB_rep a1) a3
 rcases newx_D (h:=h) hm hs s.length 0 [] [] [] (by omega) (minv0 _) (fun _ => .inl rfl) (fun _ h => by cases h) (fun x hx => by simp at hx) with ⟨⟨x,hx,e1⟩,_⟩ | ⟨st,dp,sz,e1,e2,e3⟩
 ·have:=a4 x hx
  rw [e1] at this;cases this
 ·refine ⟨st,dp,sz,?_,e2,e3⟩
  exact own_frs hm1 (owncall71 (tvNx_all hl hss hs ho (fun y => (y a1).elim) fun y => newx_aft y (fun z => by rw [a2] at z;cases z) (fun z w => by rw [a3] at w;cases w) fun z w => e1))
end Go.Av

namespace Go.Av
open Go.Proofs
set_option maxRecDepth 100000
def fi45:Fi:=⟨32,[.tmp 2,.tmp 3,.tmp 4]⟩
def kp45:List (Nat × List Nat):=[(0,[1]),(1,[1,5,6]),(2,[1,5,6,15]),(3,[2,3,4]),(4,[5,7,8]),(5,[5,8,29]),(6,[2,3,4]),(7,[2,3,4])]
def tvCdT_at (g:Bool) (l:List Bk) (h:Bool) (s:List Sb) (Q:AV -> Heap -> Prop):Prop:=Wp M1 (.run fi45 (atC (cd Try.f45) []) [(0,.agg [.vec g 3 (l.map Bk.a),.vec h 2 (s.map Sb.a)])] []) Q
def tvCdE_at (g:Bool) (l:List Bk) (h:Bool) (s:List Sb) (Q:AV -> Heap -> Prop):Prop:=Wp M1 (.run fi45 (atC (cd Try.f45) []) [(0,.agg [.vec g 3 (l.map Bk.a),.vec h 2 (s.map Sb.a)])] []) Q
theorem owncall45 {args:List AV} {L:Heap} {Q:AV -> Heap -> Prop} (h:Wp M1 (.run fi45 [.code (cd Try.f45)] (argVars 0 args) L) Q):Wp M1 (.own 45 args L) Q:=
 own_wp Try.f45 fi45 (by kernel_rfl) (by kernel_rfl) (by kernel_rfl) (by kernel_rfl) h
noncomputable abbrev zTpK1:=ag [AV.mapr 2,AV.mapr 3,AV.mapr 4,AV.mapr 5,AV.mapr 6]
noncomputable abbrev zTpK2:=ag [AV.mapr 1,AV.mapr 2,AV.mapr 3,AV.mapr 4,AV.mapr 5]
theorem tvCdT (g:Bool) (l:List Bk) (h:Bool) (s:List Sb) (sm st dp sz:List AV) (Q:AV -> Heap -> Prop) (H :
  (Ev M1 (Conf.own 71 [ag [AV.vec g 3 (List.map Bk.a l),AV.vec h 2 (List.map Sb.a s)]] []) (tu [AV.ptr 0 0 0 0,vi 0]) [{ elems:=[ag [AV.mapr 1,AV.mapr 2,AV.mapr 3,AV.mapr 4,AV.mapr 5]],es:=5,ver:=0,frozen:=false,clean:=false },{ elems:=sm,es:=2,ver:=0,frozen:=false,clean:=true },{ elems:=st,es:=2,ver:=0,frozen:=false,clean:=true },{ elems:=dp,es:=2,ver:=0,frozen:=false,clean:=true },{ elems:=sz,es:=2,ver:=0,frozen:=false,clean:=true },{ elems:=[],es:=2,ver:=0,frozen:=false,clean:=true }]) /\
  (Sp.okBs l /\ IntM dp /\ IntM sz /\ (∀ (n:Int),0 <= mapI n dp /\ mapI n dp <= 1000000) /\ ∀ (n:Int),0 <= mapI n sz /\ mapI n sz <= 20001) /\
  ((((Sp.sumP (fun n => mapI n dp) (fun n => mapI n sz) l 0 0).fst > 8) \/ ((Sp.sumP (fun n => mapI n dp) (fun n => mapI n sz) l 0 0).snd > 20000)) -> Q (tu [AV.nilp,vi 0,vi 3]) [{ elems:=[ag [AV.vec g 3 (List.map Bk.a l),AV.vec h 2 (List.map Sb.a s)]],es:=2,ver:=0,frozen:=false,clean:=false },{ elems:=[ag [AV.mapr 2,AV.mapr 3,AV.mapr 4,AV.mapr 5,AV.mapr 6]],es:=5,ver:=0,frozen:=false,clean:=false },{ elems:=sm,es:=2,ver:=0,frozen:=false,clean:=true },{ elems:=st,es:=2,ver:=0,frozen:=false,clean:=true },{ elems:=dp,es:=2,ver:=0,frozen:=false,clean:=true },{ elems:=sz,es:=2,ver:=0,frozen:=false,clean:=true },{ elems:=[],es:=2,ver:=0,frozen:=false,clean:=true }]) /\
  (¬(((Sp.sumP (fun n => mapI n dp) (fun n => mapI n sz) l 0 0).fst > 8) \/ ((Sp.sumP (fun n => mapI n dp) (fun n => mapI n sz) l 0 0).snd > 20000)) -> Q (tu [AV.ptr 1 0 0 0,vi (Sp.sumP (fun n => mapI n dp) (fun n => mapI n sz) l 0 0).snd,vi 0]) [{ elems:=[ag [AV.vec g 3 (List.map Bk.a l),AV.vec h 2 (List.map Sb.a s)]],es:=2,ver:=0,frozen:=false,clean:=false },{ elems:=[ag [AV.mapr 2,AV.mapr 3,AV.mapr 4,AV.mapr 5,AV.mapr 6]],es:=5,ver:=0,frozen:=false,clean:=false },{ elems:=sm,es:=2,ver:=0,frozen:=false,clean:=true },{ elems:=st,es:=2,ver:=0,frozen:=false,clean:=true },{ elems:=dp,es:=2,ver:=0,frozen:=false,clean:=true },{ elems:=sz,es:=2,ver:=0,frozen:=false,clean:=true },{ elems:=[],es:=2,ver:=0,frozen:=false,clean:=true }])) :
 tvCdT_at g l h s Q:=by
 unfold tvCdT_at
 obtain ⟨k1,H⟩:=H
 obtain ⟨k2,H⟩:=H
 refine path_wp (G:=given kp45 [(1,1,(.call (.tup [.ptr 0 0 0 0,.int .i64 0]) (some [⟨[.agg [.mapr 1,.mapr 2,.mapr 3,.mapr 4,.mapr 5]],5,0,false,false⟩,⟨sm,2,0,false,true⟩,⟨st,2,0,false,true⟩,⟨dp,2,0,false,true⟩,⟨sz,2,0,false,true⟩,⟨[],2,0,false,true⟩]):Ans)),(4,3,.call (tu [vi (Sp.sumP (fun n => mapI n dp) (fun n => mapI n sz) l 0 0).fst,vi (Sp.sumP (fun n => mapI n dp) (fun n => mapI n sz) l 0 0).snd]) none)] []) 14 [false] ⟨(atC (cd Try.f45) [1,1,1,1,0,1]),[(5,AV.ptr 1 0 0 0),(8,vi (Sp.sumP (fun n => mapI n dp) (fun n => mapI n sz) l 0 0).snd),(29,vb (bif decide ((Sp.sumP (fun n => mapI n dp) (fun n => mapI n sz) l 0 0).fst > 8) then true else decide ((Sp.sumP (fun n => mapI n dp) (fun n => mapI n sz) l 0 0).snd > 20000)))],[⟨[ag [AV.vec g 3 (List.map Bk.a l),AV.vec h 2 (List.map Sb.a s)]],2,0,false,false⟩,⟨[zTpK1],5,0,false,false⟩,⟨sm,2,0,false,true⟩,⟨st,2,0,false,true⟩,⟨dp,2,0,false,true⟩,⟨sz,2,0,false,true⟩,⟨[],2,0,false,true⟩],_,[],[⟨true,true,71,[ag [AV.vec g 3 (List.map Bk.a l),AV.vec h 2 (List.map Sb.a s)]],[],tu [AV.ptr 0 0 0 0,vi 0],[⟨[zTpK2],5,0,false,false⟩,⟨sm,2,0,false,true⟩,⟨st,2,0,false,true⟩,⟨dp,2,0,false,true⟩,⟨sz,2,0,false,true⟩,⟨[],2,0,false,true⟩]⟩,⟨true,true,72,[AV.ptr 0 0 0 0,AV.vec g 3 (List.map Bk.a l)],[⟨[zTpK2],5,0,false,false⟩,⟨sm,2,0,false,true⟩,⟨st,2,0,false,true⟩,⟨dp,2,0,false,true⟩,⟨sz,2,0,false,true⟩,⟨[],2,0,false,true⟩],tu [vi (Sp.sumP (fun n => mapI n dp) (fun n => mapI n sz) l 0 0).fst,vi (Sp.sumP (fun n => mapI n dp) (fun n => mapI n sz) l 0 0).snd],[⟨[zTpK2],5,0,false,false⟩,⟨sm,2,0,false,true⟩,⟨st,2,0,false,true⟩,⟨dp,2,0,false,true⟩,⟨sz,2,0,false,true⟩,⟨[],2,0,false,true⟩]⟩]⟩ (by kernel_rfl) (bc rfl (bc rfl (bc rfl b0))) q0 (cc (fun _ => k1) (cc (fun _ => (@evo72 (sm) (st) (dp) (sz) ([]) (g) (l) k2)) c0)) ?_
 rcases xm (((Sp.sumP (fun n => mapI n dp) (fun n => mapI n sz) l 0 0).fst > 8) \/ ((Sp.sumP (fun n => mapI n dp) (fun n => mapI n sz) l 0 0).snd > 20000)) with d4 | d4
 ·have H:=H.1 d4
  exact path_ret (G:=given kp45 [] []) 1000 [true] (k:=((atC (cd Try.f45) [1,1,1,1,0,1,0,1])).tail) (env':=[(2,AV.nilp),(3,vi 0),(4,vi 3)]) (L':=[⟨[ag [AV.vec g 3 (List.map Bk.a l),AV.vec h 2 (List.map Sb.a s)]],2,0,false,false⟩,⟨[zTpK1],5,0,false,false⟩,⟨sm,2,0,false,true⟩,⟨st,2,0,false,true⟩,⟨dp,2,0,false,true⟩,⟨sz,2,0,false,true⟩,⟨[],2,0,false,true⟩]) (asm:=[(bif decide ((Sp.sumP (fun n => mapI n dp) (fun n => mapI n sz) l 0 0).fst > 8) then true else decide ((Sp.sumP (fun n => mapI n dp) (fun n => mapI n sz) l 0 0).snd > 20000)) == true]) (eqs:=[]) (calls:=[]) (tu [AV.nilp,vi 0,vi 3]) (by kernel_rfl) (by kernel_rfl) (allB_cons (beq_t ((i_bor i_dec i_dec).2 d4)) allB_nil) allP_nil allC_nil H
 ·have H:=H.2 d4
  exact path_ret (G:=given kp45 [] []) 1000 [false] (k:=((atC (cd Try.f45) [1,1,1,1,1,1])).tail) (env':=[(2,AV.ptr 1 0 0 0),(3,vi (Sp.sumP (fun n => mapI n dp) (fun n => mapI n sz) l 0 0).snd),(4,vi 0)]) (L':=[⟨[ag [AV.vec g 3 (List.map Bk.a l),AV.vec h 2 (List.map Sb.a s)]],2,0,false,false⟩,⟨[zTpK1],5,0,false,false⟩,⟨sm,2,0,false,true⟩,⟨st,2,0,false,true⟩,⟨dp,2,0,false,true⟩,⟨sz,2,0,false,true⟩,⟨[],2,0,false,true⟩]) (asm:=[(bif decide ((Sp.sumP (fun n => mapI n dp) (fun n => mapI n sz) l 0 0).fst > 8) then true else decide ((Sp.sumP (fun n => mapI n dp) (fun n => mapI n sz) l 0 0).snd > 20000)) == false]) (eqs:=[]) (calls:=[]) (tu [AV.ptr 1 0 0 0,vi (Sp.sumP (fun n => mapI n dp) (fun n => mapI n sz) l 0 0).snd,vi 0]) (by kernel_rfl) (by kernel_rfl) (allB_cons (beq_f (fun h => d4 ((i_bor i_dec i_dec).1 h))) allB_nil) allP_nil allC_nil H
theorem tvCdE (g:Bool) (l:List Bk) (h:Bool) (s:List Sb) (e:Int) (Q:AV -> Heap -> Prop) (H :
  (Ev M1 (Conf.own 71 [ag [AV.vec g 3 (List.map Bk.a l),AV.vec h 2 (List.map Sb.a s)]] []) (tu [AV.nilp,vi e]) []) /\
  ((¬e = 0) -> Q (tu [AV.nilp,vi 0,vi e]) [{ elems:=[ag [AV.vec g 3 (List.map Bk.a l),AV.vec h 2 (List.map Sb.a s)]],es:=2,ver:=0,frozen:=false,clean:=false }]) /\
  (¬(¬e = 0) -> False)) :
 tvCdE_at g l h s Q:=by
 unfold tvCdE_at
 obtain ⟨k1,H⟩:=H
 refine path_wp (G:=given kp45 [(1,1,(.call (.tup [.nilp,.int .i64 e]) none:Ans))] []) 7 [] ⟨(atC (cd Try.f45) [1,1,0,1]),[(1,AV.ptr 0 0 0 0),(5,AV.nilp),(6,vi e),(15,vb (e != 0))],[⟨[ag [AV.vec g 3 (List.map Bk.a l),AV.vec h 2 (List.map Sb.a s)]],2,0,false,false⟩],_,[],[⟨true,true,71,[ag [AV.vec g 3 (List.map Bk.a l),AV.vec h 2 (List.map Sb.a s)]],[],tu [AV.nilp,vi e],[]⟩]⟩ (by kernel_rfl) (bc rfl b0) q0 (cc (fun _ => k1) c0) ?_
 rcases xm (¬e = 0) with d3 | d3
 ·have H:=H.1 d3
  exact path_ret (G:=given kp45 [] []) 1000 [true] (k:=((atC (cd Try.f45) [1,1,0,1,0,1])).tail) (env':=[(2,AV.nilp),(3,vi 0),(4,vi e)]) (L':=[⟨[ag [AV.vec g 3 (List.map Bk.a l),AV.vec h 2 (List.map Sb.a s)]],2,0,false,false⟩]) (asm:=[(e != 0) == true]) (eqs:=[]) (calls:=[]) (tu [AV.nilp,vi 0,vi e]) (by kernel_rfl) (by kernel_rfl) (allB_cons (beq_t (i_ne.2 d3)) allB_nil) allP_nil allC_nil H
 ·have H:=H.2 d3
  exact False.elim H
end Go.Av

namespace Go.Av
open Go.Proofs
namespace Sp
def VN (s:List Sb):Int -> Option (Int × Int):=V (bod s) s.length
def siz (l:List Bk) (s:List Sb):Int × Int:=
 if ¬xe l s = 0 then (0,xe l s) else if (sumE (VN s) l).1 > 8 \/ (sumE (VN s) l).2 > 20000 then (0,3) else ((sumE (VN s) l).2,0)
end Sp
theorem main_V {l:List Bk} {s:List Sb} (he:Sp.xe l s = 0):∀ x ∈ l,Sp.cIs x.ws = true -> Sp.cN x.ws ∈ Sp.nums s /\ (Sp.VN s (Sp.cN x.ws)).isSome = true:=by
 obtain ⟨a1,a2,a3,a4⟩:=xe_ok he
 rw [blks_any,Bool.or_eq_false_iff] at a3
 intro x hx k
 have hn:=nums_of.1 (found_of a3.1 x hx k)
 obtain ⟨y,hy,e⟩:=List.mem_map.1 hn
 have:=a4 y hy
 rw [e] at this
 exact ⟨hn,this⟩
theorem sum_maps {l:List Bk} {s:List Sb} {st dp sz:List AV} (hs:s.length <= 1000) (ho:Sp.okSs s) (he:Sp.xe l s = 0) (hI:MInv (Sp.bod s) st dp sz) (h2:∀ x ∈ s,mapI x.n st = 2) :
  Sp.sumP (fun n => mapI n dp) (fun n => mapI n sz) l 0 0 = Sp.sumE (Sp.VN s) l:=by
 obtain ⟨a1,a2,a3,a4⟩:=xe_ok he
 unfold Sp.sumE
 refine sumP_congr _ _ _ fun x hx k => ?_
 obtain ⟨hn,hv⟩:=main_V he x hx k
 obtain ⟨y,hy,e⟩:=List.mem_map.1 hn
 obtain ⟨j,hj⟩:=hI.2.2.2 _ (h2 y hy)
 rw [e] at hj
 obtain ⟨w,hw⟩:=Option.isSome_iff_exists.1 hv
 rw [hw,Option.getD_some]
 unfold Sp.VN at hw
 rw [V_eq hw hj];exact ⟨rfl,rfl⟩
theorem chkd_err {g h:Bool} {l:List Bk} {s:List Sb} (hok:Sp.okN l s) (he:Sp.siz l s ≠ ((Sp.siz l s).1,0)):Ev M1 (.own 45 [.agg [bsA g l,.vec h 2 (s.map Sb.a)]] []) (.tup [.nilp,.int .i64 (Sp.siz l s).1,.int .i64 (Sp.siz l s).2]) []:=by
 by_cases h0:Sp.xe l s = 0
 ·obtain ⟨st,dp,sz,e1,e2,e3⟩:=newx_ok (g:=g) (h:=h) hok h0
  have hsum:=sum_maps hok.2.2.1 hok.2.1 h0 e2 e3
  refine own_frs hm1 (owncall45 (tvCdT _ _ _ _ _ st dp sz _ ⟨e1,⟨hok.1,e2.1.2.1,e2.1.2.2,e2.2.1,e2.2.2.1⟩,?_⟩))
  rw [hsum]
  have hz:Sp.siz l s = if (Sp.sumE (Sp.VN s) l).1 > 8 \/ (Sp.sumE (Sp.VN s) l).2 > 20000 then (0,3) else ((Sp.sumE (Sp.VN s) l).2,0):=by
   unfold Sp.siz;rw [if_neg (by simp [h0])]
  refine ⟨fun k => ?_,fun k => ?_⟩
  ·rw [hz,if_pos k];exact frs_end [] (by kernel_rfl) rfl rfl
  ·rw [hz,if_neg k] at he;exact (he rfl).elim
 ·have hz:Sp.siz l s = (0,Sp.xe l s):=by unfold Sp.siz;rw [if_pos h0]
  rw [hz]
  refine own_frs hm1 (owncall45 (tvCdE _ _ _ _ (Sp.xe l s) _ ⟨newx_err hok h0,fun k => frs_end [] (by kernel_rfl) rfl rfl,fun k => (k h0).elim⟩))
theorem siz_ok {l:List Bk} {s:List Sb} (h:(Sp.siz l s).2 = 0):Sp.xe l s = 0 /\ (Sp.sumE (Sp.VN s) l).1 <= 8 /\ (Sp.sumE (Sp.VN s) l).2 <= 20000 /\ Sp.siz l s = ((Sp.sumE (Sp.VN s) l).2,0):=by
 unfold Sp.siz at h ⊢
 split at h
 ·rename_i k;exact (k h).elim
 ·rename_i k
  split at h
  ·cases h
  ·rename_i k2
   rw [if_neg k,if_neg k2]
   exact ⟨Classical.not_not.1 k,by omega,by omega,rfl⟩
theorem chkd_ok {g h:Bool} {l:List Bk} {s:List Sb} (hok:Sp.okN l s) (he:(Sp.siz l s).2 = 0):∃ st dp sz,Ev M1 (.own 45 [.agg [bsA g l,.vec h 2 (s.map Sb.a)]] []) (.tup [.ptr 0 0 0 0,.int .i64 (Sp.siz l s).1,.int .i64 0]) (XH (Sp.smOf s) st dp sz []):=by
 obtain ⟨h0,z1,z2,hz⟩:=siz_ok he
 obtain ⟨st,dp,sz,e1,e2,e3⟩:=newx_ok (g:=g) (h:=h) hok h0
 have hsum:=sum_maps hok.2.2.1 hok.2.1 h0 e2 e3
 refine ⟨st,dp,sz,own_frs hm1 (owncall45 (tvCdT _ _ _ _ _ st dp sz _ ⟨e1,⟨hok.1,e2.1.2.1,e2.1.2.2,e2.2.1,e2.2.2.1⟩,?_⟩))⟩
 rw [hsum,hz]
 exact ⟨fun k => by omega,fun k => frs_end [1,2,3,4,5,6] (by kernel_rfl) rfl rfl⟩
end Go.Av

namespace Go.Av
open Go.Proofs
set_option maxRecDepth 100000
end Go.Av

namespace Go.Av
open Go.Proofs
namespace Sp
def rep (t:Nat) (Y:List Bk):List Bk:=(List.replicate t Y).flatten
def xpd (E:Int -> List Bk) (l:List Bk):List Bk:=l.flatMap fun b => if cIs b.ws = true then rep (cT b.ws).toNat (E (cN b.ws)) else [b]
def X (S:Int -> List Bk):Nat -> Int -> List Bk
 | 0,_ => []
 | k + 1,n => xpd (X S k) (S n)
def XN (s:List Sb):Int -> List Bk:=X (bod s) s.length
def XM (l:List Bk) (s:List Sb):List Bk:=xpd (XN s) l
end Sp
theorem xpd_cons (E:Int -> List Bk) (x:Bk) (l:List Bk):Sp.xpd E (x :: l) = (if Sp.cIs x.ws = true then Sp.rep (Sp.cT x.ws).toNat (E (Sp.cN x.ws)) else [x]) ++ Sp.xpd E l:=by
 unfold Sp.xpd;rw [List.flatMap_cons]
theorem xpd_congr {E E':Int -> List Bk}:∀ {l:List Bk},(∀ x ∈ l,Sp.cIs x.ws = true -> E (Sp.cN x.ws) = E' (Sp.cN x.ws)) -> Sp.xpd E l = Sp.xpd E' l
 | [],_ => rfl
 | x :: l,h => by
  rw [xpd_cons,xpd_cons,xpd_congr fun y hy => h y (List.mem_cons_of_mem _ hy)]
  split
  ·rename_i k;rw [h x (by simp) k]
  ·rfl
theorem X_mono1 {S:Int -> List Bk}:∀ (k:Nat) (n:Int),(Sp.V S k n).isSome = true -> Sp.X S (k + 1) n = Sp.X S k n:=by
 intro k
 induction k with
 | zero => intro n h;simp [Sp.V] at h
 | succ k ih =>
  intro n h
  rw [Sp.X,Sp.X]
  exact xpd_congr fun x hx y => ih _ (V_succ.1 h x hx y)
theorem rep_zero (Y:List Bk):Sp.rep 0 Y = []:=rfl
theorem rep_succ (t:Nat) (Y:List Bk):Sp.rep (t + 1) Y = Y ++ Sp.rep t Y:=by unfold Sp.rep;rw [List.replicate_succ,List.flatten_cons]
theorem rep_len (t:Nat) (Y:List Bk):(Sp.rep t Y).length = t * Y.length:=by
 induction t with
 | zero => rw [rep_zero];simp
 | succ t ih => rw [rep_succ,List.length_append,ih,Nat.succ_mul];omega
theorem rep_nil (t:Nat):Sp.rep t [] = []:=by
 have:=rep_len t []
 rw [List.length_nil,Nat.mul_zero] at this
 exact List.eq_nil_of_length_eq_zero this
theorem cap_cap (a b:Int):Sp.cap (a + Sp.cap b) = Sp.cap (a + b) \/ a < 0:=by
 unfold Sp.cap
 by_cases h:a < 0
 ·exact .inr h
 ·left
  by_cases h1:b < 20001
  ·rw [if_pos h1]
  ·rw [if_neg h1,if_neg (by omega),if_neg (by omega)]
theorem cap_mul {t x:Int} (ht:1 <= t) (hx:0 <= x):Sp.cap (t * Sp.cap x) = Sp.cap (t * x):=by
 unfold Sp.cap
 by_cases h1:x < 20001
 ·rw [if_pos h1]
 ·rw [if_neg h1]
  have a1:20001 <= t * 20001:=by omega
  have a2:t * 20001 <= t * x:=Int.mul_le_mul_of_nonneg_left (by omega) (by omega)
  rw [if_neg (by omega),if_neg (by omega)]
theorem sumP_len {D:Int -> Int} {E:Int -> List Bk} {Z:Int -> Int}:∀ (l:List Bk) (d z a:Int),(∀ x ∈ l,Sp.cIs x.ws = true -> Z (Sp.cN x.ws) = Sp.cap (E (Sp.cN x.ws)).length) -> 0 <= a -> z = Sp.cap a -> (Sp.sumP D Z l d z).2 = Sp.cap (a + (Sp.xpd E l).length)
 | [],d,z,a,_,_,hz => by rw [Sp.sumP,hz];show _ = Sp.cap (a + ((0:Nat):Int));rw [Int.ofNat_zero,Int.add_zero]
 | x :: r,d,z,a,h,ha,hz => by
  have hr:=fun y hy => h y (List.mem_cons_of_mem _ hy)
  rw [Sp.sumP,xpd_cons]
  have hca:∀ b:Int,0 <= b -> Sp.cap (z + Sp.cap b) = Sp.cap (a + b):=fun b hb => by
   rw [hz]
   rcases cap_cap (Sp.cap a) b with e | e
   ·rw [e,Int.add_comm (Sp.cap a),Int.add_comm a]
    rcases cap_cap b a with e | e
    ·exact e
    ·omega
   ·have:=cap_ge ha;omega
  by_cases k:Sp.cIs x.ws = true
  ·rw [if_pos k,if_pos k]
   have hct:=(cIs_at k).1
   rw [h x (by simp) k,cap_mul (by omega) (by omega)]
   have hnn:0 <= Sp.cT x.ws * ((E (Sp.cN x.ws)).length:Int):=Int.mul_nonneg (by omega) (by omega)
   rw [sumP_len r _ _ (a + Sp.cT x.ws * (E (Sp.cN x.ws)).length) hr (by omega) (hca _ hnn)]
   congr 1
   rw [List.length_append,rep_len,Int.natCast_add,Int.natCast_mul,Int.toNat_of_nonneg (by omega)]
   omega
  ·rw [if_neg k,if_neg k]
   have e1:Sp.cap (z + 1) = Sp.cap (a + 1):=hca 1 (by omega)
   rw [e1,sumP_len r _ _ (a + 1) hr (by omega) rfl]
   congr 1
   simp only [List.length_append,List.length_singleton]
   omega
theorem V_len {S:Int -> List Bk}:∀ (k:Nat) (n:Int) (v:Int × Int),Sp.V S k n = some v -> v.2 = Sp.cap (Sp.X S k n).length:=by
 intro k
 induction k with
 | zero => intro n v h;simp [Sp.V] at h
 | succ k ih =>
  intro n v h
  rw [Sp.V] at h
  split at h
  ·rename_i hd
   have hd':=allD_iff.1 hd
   rw [<- Option.some.inj h]
   unfold Sp.sumE
   rw [sumP_len (E:=Sp.X S k) (S n) 0 0 0 (fun x hx y => by
    obtain ⟨w,hw⟩:=Option.isSome_iff_exists.1 (hd' x hx y)
    rw [hw,Option.getD_some]
    exact ih _ _ hw) (by omega) rfl,Int.zero_add]
   rfl
  ·cases h
theorem siz_len {l:List Bk} {s:List Sb} (h:(Sp.siz l s).2 = 0):((Sp.XM l s).length:Int) = (Sp.siz l s).1 /\ (Sp.XM l s).length <= 20000:=by
 obtain ⟨h0,h1,h2,h3⟩:=siz_ok h
 have e:(Sp.sumE (Sp.VN s) l).2 = Sp.cap (Sp.XM l s).length:=by
  unfold Sp.sumE Sp.XM
  rw [sumP_len (E:=Sp.XN s) l 0 0 0 (fun x hx y => by
   obtain ⟨w,hw⟩:=Option.isSome_iff_exists.1 (main_V h0 x hx y).2
   rw [hw,Option.getD_some]
   exact V_len _ _ _ hw) (by omega) rfl,Int.zero_add]
 rw [h3]
 unfold Sp.cap at e
 split at e <;> omega
end Go.Av

namespace Go.Av
open Go.Proofs
set_option maxRecDepth 100000
def fi46:Fi:=⟨70,[.tmp 4]⟩
def kp46:List (Nat × List Nat):=[(0,[0,1]),(1,[0,1,5]),(2,[0,5,14,15,16]),(3,[0,5,14,15,16,17]),(4,[0,5,7,14,15,16]),(5,[0,5,7,8,9,10,14,15,16]),(6,[0,5,7,8,9,14,15,16,28]),(7,[0,5,14,15,16]),(8,[0,5,8,9,12,13,14,15,16]),(9,[0,5,8,9,12,14,15,16,43]),(10,[0,5,8,9,12,14,15,16]),(11,[0,5,9,12,14,15,16]),(12,[0,5,9,12,14,15,16,60]),(13,[0,5,12,14,15,16,61,62]),(14,[0,5,12,14,15,16,61,62,63]),(15,[0,5,12,14,15,16,61,62]),(16,[0,5,12,14,15,16,61,62]),(17,[0,5,14,15,16]),(18,[4])]
def tvXp_at (sm st dp sz dn:List AV) (g:Bool) (l:List Bk) (Q:AV -> Heap -> Prop):Prop:=Wp M1 (.run fi46 (atC (cd Try.f46) []) [(0,.ptr 0 0 0 0),(1,.vec g 3 (l.map Bk.a))] [⟨[.agg [.mapr 1,.mapr 2,.mapr 3,.mapr 4,.mapr 5]],5,0,false,false⟩,⟨sm,2,0,false,true⟩,⟨st,2,0,false,true⟩,⟨dp,2,0,false,true⟩,⟨sz,2,0,false,true⟩,⟨dn,2,0,false,true⟩]) Q
def tvXaz_at (sm st dp sz dn:List AV) (g:Bool) (l:List Bk) (n i:Int) (Q:AV -> Heap -> Prop):Prop:=Wp M1 (.run fi46 (atC (cd Try.f46) [1,1,0,1,0,0]) [(0,.ptr 0 0 0 0),(5,.vnil),(14,.vec g 3 (l.map Bk.a)),(15,.int .i64 n),(16,.int .i64 i)] [⟨[.agg [.mapr 1,.mapr 2,.mapr 3,.mapr 4,.mapr 5]],5,0,false,false⟩,⟨sm,2,0,false,true⟩,⟨st,2,0,false,true⟩,⟨dp,2,0,false,true⟩,⟨sz,2,0,false,true⟩,⟨dn,2,0,false,true⟩]) Q
def tvXaa_at (sm st dp sz dn:List AV) (g:Bool) (l:List Bk) (q:List Bk) (v:Nat) (n i:Int) (Q:AV -> Heap -> Prop):Prop:=Wp M1 (.run fi46 (atC (cd Try.f46) [1,1,0,1,0,0]) [(0,.ptr 0 0 0 0),(5,.row 6 v),(14,.vec g 3 (l.map Bk.a)),(15,.int .i64 n),(16,.int .i64 i)] [⟨[.agg [.mapr 1,.mapr 2,.mapr 3,.mapr 4,.mapr 5]],5,0,false,false⟩,⟨sm,2,0,false,true⟩,⟨st,2,0,false,true⟩,⟨dp,2,0,false,true⟩,⟨sz,2,0,false,true⟩,⟨dn,2,0,false,true⟩,⟨q.map Bk.a,3,v,false,true⟩]) Q
def tvXkz_at (sm st dp sz dn:List AV) (g:Bool) (l:List Bk) (m t n i:Int) (Q:AV -> Heap -> Prop):Prop:=Wp M1 (.run fi46 (atC (cd Try.f46) [1,1,0,1,0,0,1,1,0,0,1,1,1]) [(0,.ptr 0 0 0 0),(5,.vnil),(8,.int .i64 m),(9,.int .i64 t),(14,.vec g 3 (l.map Bk.a)),(15,.int .i64 n),(16,.int .i64 i)] [⟨[.agg [.mapr 1,.mapr 2,.mapr 3,.mapr 4,.mapr 5]],5,0,false,false⟩,⟨sm,2,0,false,true⟩,⟨st,2,0,false,true⟩,⟨dp,2,0,false,true⟩,⟨sz,2,0,false,true⟩,⟨dn,2,0,false,true⟩]) Q
def tvXka_at (sm st dp sz dn:List AV) (g:Bool) (l:List Bk) (q:List Bk) (v:Nat) (m t n i:Int) (Q:AV -> Heap -> Prop):Prop:=Wp M1 (.run fi46 (atC (cd Try.f46) [1,1,0,1,0,0,1,1,0,0,1,1,1]) [(0,.ptr 0 0 0 0),(5,.row 6 v),(8,.int .i64 m),(9,.int .i64 t),(14,.vec g 3 (l.map Bk.a)),(15,.int .i64 n),(16,.int .i64 i)] [⟨[.agg [.mapr 1,.mapr 2,.mapr 3,.mapr 4,.mapr 5]],5,0,false,false⟩,⟨sm,2,0,false,true⟩,⟨st,2,0,false,true⟩,⟨dp,2,0,false,true⟩,⟨sz,2,0,false,true⟩,⟨dn,2,0,false,true⟩,⟨q.map Bk.a,3,v,false,true⟩]) Q
def tvXuz_at (sm st dp sz dn:List AV) (g:Bool) (l:List Bk) (m t n i:Int) (Q:AV -> Heap -> Prop):Prop:=Wp M1 (.run fi46 (atC (cd Try.f46) [1,1,0,1,0,0,1,1,0,0,1,1,1]) [(0,.ptr 0 0 0 0),(5,.vnil),(8,.int .i64 m),(9,.int .i64 t),(14,.vec g 3 (l.map Bk.a)),(15,.int .i64 n),(16,.int .i64 i)] [⟨[.agg [.mapr 1,.mapr 2,.mapr 3,.mapr 4,.mapr 5]],5,0,false,false⟩,⟨sm,2,0,false,true⟩,⟨st,2,0,false,true⟩,⟨dp,2,0,false,true⟩,⟨sz,2,0,false,true⟩,⟨dn,2,0,false,true⟩]) Q
def tvXua_at (sm st dp sz dn:List AV) (g:Bool) (l:List Bk) (q:List Bk) (v:Nat) (m t n i:Int) (Q:AV -> Heap -> Prop):Prop:=Wp M1 (.run fi46 (atC (cd Try.f46) [1,1,0,1,0,0,1,1,0,0,1,1,1]) [(0,.ptr 0 0 0 0),(5,.row 6 v),(8,.int .i64 m),(9,.int .i64 t),(14,.vec g 3 (l.map Bk.a)),(15,.int .i64 n),(16,.int .i64 i)] [⟨[.agg [.mapr 1,.mapr 2,.mapr 3,.mapr 4,.mapr 5]],5,0,false,false⟩,⟨sm,2,0,false,true⟩,⟨st,2,0,false,true⟩,⟨dp,2,0,false,true⟩,⟨sz,2,0,false,true⟩,⟨dn,2,0,false,true⟩,⟨q.map Bk.a,3,v,false,true⟩]) Q
def tvXrz_at (sm st dp sz dn:List AV) (g:Bool) (l:List Bk) (bf:Bool) (y:Bk) (Y:List Bk) (t k n i:Int) (Q:AV -> Heap -> Prop):Prop:=Wp M1 (.run fi46 (atC (cd Try.f46) [1,1,0,1,0,0,1,1,0,0,1,1,1,1,1,1,1,0,0]) [(0,.ptr 0 0 0 0),(5,.vnil),(12,.vec bf 3 ((y :: Y).map Bk.a)),(14,.vec g 3 (l.map Bk.a)),(15,.int .i64 n),(16,.int .i64 i),(61,.int .i64 t),(62,.int .i64 k)] [⟨[.agg [.mapr 1,.mapr 2,.mapr 3,.mapr 4,.mapr 5]],5,0,false,false⟩,⟨sm,2,0,false,true⟩,⟨st,2,0,false,true⟩,⟨dp,2,0,false,true⟩,⟨sz,2,0,false,true⟩,⟨dn,2,0,false,true⟩]) Q
def tvXra_at (sm st dp sz dn:List AV) (g:Bool) (l:List Bk) (q:List Bk) (v:Nat) (bf:Bool) (Y:List Bk) (t k n i:Int) (Q:AV -> Heap -> Prop):Prop:=Wp M1 (.run fi46 (atC (cd Try.f46) [1,1,0,1,0,0,1,1,0,0,1,1,1,1,1,1,1,0,0]) [(0,.ptr 0 0 0 0),(5,.row 6 v),(12,.vec bf 3 (Y.map Bk.a)),(14,.vec g 3 (l.map Bk.a)),(15,.int .i64 n),(16,.int .i64 i),(61,.int .i64 t),(62,.int .i64 k)] [⟨[.agg [.mapr 1,.mapr 2,.mapr 3,.mapr 4,.mapr 5]],5,0,false,false⟩,⟨sm,2,0,false,true⟩,⟨st,2,0,false,true⟩,⟨dp,2,0,false,true⟩,⟨sz,2,0,false,true⟩,⟨dn,2,0,false,true⟩,⟨q.map Bk.a,3,v,false,true⟩]) Q
theorem owncall46 {args:List AV} {L:Heap} {Q:AV -> Heap -> Prop} (h:Wp M1 (.run fi46 [.code (cd Try.f46)] (argVars 0 args) L) Q):Wp M1 (.own 46 args L) Q:=
 own_wp Try.f46 fi46 (by kernel_rfl) (by kernel_rfl) (by kernel_rfl) (by kernel_rfl) h
theorem tvXp (sm st dp sz dn:List AV) (g:Bool) (l:List Bk)  (Q:AV -> Heap -> Prop) (H :
  tvXaz_at (sm) (st) (dp) (sz) (dn) (g) (l) ((↑l.length:Int)) (0) Q) :
 tvXp_at sm st dp sz dn g l Q:=by
 unfold tvXp_at
 have w1:(List.map Bk.a l).length = l.length:=List.length_map ..
 exact path_wp (G:=given kp46 [] []) 1000 [] ⟨(atC (cd Try.f46) [1,1,0,1,0,0]),[(0,AV.ptr 0 0 0 0),(5,AV.vnil),(14,AV.vec g 3 (List.map Bk.a l)),(15,vi (↑(List.map Bk.a l).length:Int)),(16,vi 0)],[⟨[ag [AV.mapr 1,AV.mapr 2,AV.mapr 3,AV.mapr 4,AV.mapr 5]],5,0,false,false⟩,⟨sm,2,0,false,true⟩,⟨st,2,0,false,true⟩,⟨dp,2,0,false,true⟩,⟨sz,2,0,false,true⟩,⟨dn,2,0,false,true⟩],_,[],_⟩ (by kernel_rfl) b0 q0 c0 (by (try rw [w1]);all_goals exact H)
noncomputable abbrev zTpM1:=ag [AV.mapr 1,AV.mapr 2,AV.mapr 3,AV.mapr 4,AV.mapr 5]
theorem tvXaz (sm st dp sz dn:List AV) (g:Bool) (l:List Bk) (n i:Int)  (Q:AV -> Heap -> Prop) (H :
  ((i < n) -> (0 <= i) /\
   (i.toNat < l.length) /\
   (Sp.okW (l.getD i.toNat default).3) /\
   ((¬(Sp.cIs (l.getD i.toNat default).3 = true)) -> (-9223372036854775808 <= i + 1 /\ i + 1 <= 9223372036854775807) /\
    Wp M1 (.run fi46 (atC (cd Try.f46) [1,1,0,1,0,0]) [(0,AV.ptr 0 0 0 0),(5,AV.row 7 0),(14,AV.vec g 3 (List.map Bk.a l)),(15,vi n),(16,vi (i + 1))] [{ elems:=[ag [AV.mapr 1,AV.mapr 2,AV.mapr 3,AV.mapr 4,AV.mapr 5]],es:=5,ver:=0,frozen:=false,clean:=false },{ elems:=sm,es:=2,ver:=0,frozen:=false,clean:=true },{ elems:=st,es:=2,ver:=0,frozen:=false,clean:=true },{ elems:=dp,es:=2,ver:=0,frozen:=false,clean:=true },{ elems:=sz,es:=2,ver:=0,frozen:=false,clean:=true },{ elems:=dn,es:=2,ver:=0,frozen:=false,clean:=true },{ elems:=[ag [vb (l.getD i.toNat default).1,AV.vec (l.getD i.toNat default).2 2 (List.map Wo.a (l.getD i.toNat default).3),AV.str (l.getD i.toNat default).4]],es:=3,ver:=0,frozen:=false,clean:=false },{ elems:=[ag [vb (l.getD i.toNat default).1,AV.vec (l.getD i.toNat default).2 2 (List.map Wo.a (l.getD i.toNat default).3),AV.str (l.getD i.toNat default).4]],es:=3,ver:=0,frozen:=false,clean:=true }]) Q) /\
   (¬(¬(Sp.cIs (l.getD i.toNat default).3 = true)) -> Wp M1 (.run fi46 (atC (cd Try.f46) [1,1,0,1,0,0,1,1,0,0,1,1,1]) [(0,AV.ptr 0 0 0 0),(5,AV.vnil),(8,vi (Sp.cN (l.getD i.toNat default).3)),(9,vi (Sp.cT (l.getD i.toNat default).3)),(14,AV.vec g 3 (List.map Bk.a l)),(15,vi n),(16,vi i)] [{ elems:=[ag [AV.mapr 1,AV.mapr 2,AV.mapr 3,AV.mapr 4,AV.mapr 5]],es:=5,ver:=0,frozen:=false,clean:=false },{ elems:=sm,es:=2,ver:=0,frozen:=false,clean:=true },{ elems:=st,es:=2,ver:=0,frozen:=false,clean:=true },{ elems:=dp,es:=2,ver:=0,frozen:=false,clean:=true },{ elems:=sz,es:=2,ver:=0,frozen:=false,clean:=true },{ elems:=dn,es:=2,ver:=0,frozen:=false,clean:=true },{ elems:=List.map Bk.a [{ sk:=(l.getD i.toNat default).1,f:=(l.getD i.toNat default).2,ws:=(l.getD i.toNat default).3,cm:=(l.getD i.toNat default).4 }],es:=3,ver:=0,frozen:=false,clean:=false }]) Q)) /\
  (¬(i < n) -> Q (AV.vnil) [{ elems:=[ag [AV.mapr 1,AV.mapr 2,AV.mapr 3,AV.mapr 4,AV.mapr 5]],es:=5,ver:=0,frozen:=false,clean:=false },{ elems:=sm,es:=2,ver:=0,frozen:=false,clean:=true },{ elems:=st,es:=2,ver:=0,frozen:=false,clean:=true },{ elems:=dp,es:=2,ver:=0,frozen:=false,clean:=true },{ elems:=sz,es:=2,ver:=0,frozen:=false,clean:=true },{ elems:=dn,es:=2,ver:=0,frozen:=false,clean:=true }])) :
 tvXaz_at sm st dp sz dn g l n i Q:=by
 unfold tvXaz_at
 rcases xm (i < n) with d2 | d2
 ·have H:=H.1 d2
  obtain ⟨k4,H⟩:=H
  have w5:(List.map Bk.a l).length = l.length:=List.length_map ..
  have i6:(decide (i.toNat < (List.map Bk.a l).length)) = true ↔ (i.toNat < l.length):=(by (try rw [w5]);all_goals exact i_dec)
  obtain ⟨k7,H⟩:=H
  obtain ⟨k8,H⟩:=H
  refine path_wp (G:=given kp46 [(4,1,.elem (ag [vb (l.getD i.toNat default).1,AV.vec (l.getD i.toNat default).2 2 (List.map Wo.a (l.getD i.toNat default).3),AV.str (l.getD i.toNat default).4])),(5,1,.call (tu [vi (Sp.cN (l.getD i.toNat default).3),vi (Sp.cT (l.getD i.toNat default).3),vb (Sp.cIs (l.getD i.toNat default).3),vi (Sp.cE (l.getD i.toNat default).3)]) none)] []) 14 [true] ⟨(atC (cd Try.f46) [1,1,0,1,0,0,1,1,0,0,1,1,0,1]),[(0,AV.ptr 0 0 0 0),(5,AV.vnil),(7,AV.ptr 6 0 0 0),(8,vi (Sp.cN (l.getD i.toNat default).3)),(9,vi (Sp.cT (l.getD i.toNat default).3)),(14,AV.vec g 3 (List.map Bk.a l)),(15,vi n),(16,vi i),(28,vb !Sp.cIs (l.getD i.toNat default).3)],[⟨[zTpM1],5,0,false,false⟩,⟨sm,2,0,false,true⟩,⟨st,2,0,false,true⟩,⟨dp,2,0,false,true⟩,⟨sz,2,0,false,true⟩,⟨dn,2,0,false,true⟩,⟨[ag [vb (l.getD i.toNat default).1,AV.vec (l.getD i.toNat default).2 2 (List.map Wo.a (l.getD i.toNat default).3),AV.str (l.getD i.toNat default).4]],3,0,false,false⟩],_,[((List.map Bk.a l).get?Internal i.toNat = some (ag [vb (l.getD i.toNat default).1,AV.vec (l.getD i.toNat default).2 2 (List.map Wo.a (l.getD i.toNat default).3),AV.str (l.getD i.toNat default).4]))],_⟩ (by kernel_rfl) (bc (beq_t (i_dec.2 d2)) (bc (i_dec.2 k4) (bc (i6.2 k7) (bc rfl (bc rfl b0))))) (qc (el_map k7) q0) (ce (@ev13 ((l.getD i.toNat default).1) ((l.getD i.toNat default).2) ((l.getD i.toNat default).3) ((l.getD i.toNat default).4) k8) c0) ?_
  rcases xm (¬(Sp.cIs (l.getD i.toNat default).3 = true)) with d10 | d10
  ·have H:=H.1 d10
   obtain ⟨k11,H⟩:=H
   have w12:wi (i + 1) = i + 1:=wI64 k11
   exact path_wp (G:=given kp46 [] []) 1000 [true] ⟨(atC (cd Try.f46) [1,1,0,1,0,0]),[(0,AV.ptr 0 0 0 0),(5,AV.row 7 0),(14,AV.vec g 3 (List.map Bk.a l)),(15,vi n),(16,vi (wi (i + 1)))],[⟨[zTpM1],5,0,false,false⟩,⟨sm,2,0,false,true⟩,⟨st,2,0,false,true⟩,⟨dp,2,0,false,true⟩,⟨sz,2,0,false,true⟩,⟨dn,2,0,false,true⟩,⟨[ag [vb (l.getD i.toNat default).1,AV.vec (l.getD i.toNat default).2 2 (List.map Wo.a (l.getD i.toNat default).3),AV.str (l.getD i.toNat default).4]],3,0,false,false⟩,⟨[ag [vb (l.getD i.toNat default).1,AV.vec (l.getD i.toNat default).2 2 (List.map Wo.a (l.getD i.toNat default).3),AV.str (l.getD i.toNat default).4]],3,0,false,true⟩],[(!Sp.cIs (l.getD i.toNat default).3) == true,true,true],[],_⟩ (by kernel_rfl) (bc (beq_t ((i_not (i_var _)).2 d10)) (bc rfl (bc rfl b0))) q0 c0 (by (try rw [w12]);all_goals exact H)
  ·have H:=H.2 d10
   have w13:[ag [vb (l.getD i.toNat default).1,AV.vec (l.getD i.toNat default).2 2 (List.map Wo.a (l.getD i.toNat default).3),AV.str (l.getD i.toNat default).4]] = List.map Bk.a [{ sk:=(l.getD i.toNat default).1,f:=(l.getD i.toNat default).2,ws:=(l.getD i.toNat default).3,cm:=(l.getD i.toNat default).4 }]:=rfl
   exact path_wp (G:=given kp46 [] []) 2 [false] ⟨(atC (cd Try.f46) [1,1,0,1,0,0,1,1,0,0,1,1,1]),[(0,AV.ptr 0 0 0 0),(5,AV.vnil),(7,AV.ptr 6 0 0 0),(8,vi (Sp.cN (l.getD i.toNat default).3)),(9,vi (Sp.cT (l.getD i.toNat default).3)),(14,AV.vec g 3 (List.map Bk.a l)),(15,vi n),(16,vi i),(28,vb !Sp.cIs (l.getD i.toNat default).3)],[⟨[zTpM1],5,0,false,false⟩,⟨sm,2,0,false,true⟩,⟨st,2,0,false,true⟩,⟨dp,2,0,false,true⟩,⟨sz,2,0,false,true⟩,⟨dn,2,0,false,true⟩,⟨[ag [vb (l.getD i.toNat default).1,AV.vec (l.getD i.toNat default).2 2 (List.map Wo.a (l.getD i.toNat default).3),AV.str (l.getD i.toNat default).4]],3,0,false,false⟩],[(!Sp.cIs (l.getD i.toNat default).3) == false],[],_⟩ (by kernel_rfl) (bc (beq_f (fun h => d10 ((i_not (i_var _)).1 h))) b0) q0 c0 (by (try rw [w13]);all_goals exact Wp.less [0,5,8,9,14,15,16] (H))
 ·have H:=H.2 d2
  exact path_ret (G:=given kp46 [] []) 1000 [false] (k:=((atC (cd Try.f46) [1,1,1,1])).tail) (env':=[(4,AV.vnil)]) (L':=[⟨[zTpM1],5,0,false,false⟩,⟨sm,2,0,false,true⟩,⟨st,2,0,false,true⟩,⟨dp,2,0,false,true⟩,⟨sz,2,0,false,true⟩,⟨dn,2,0,false,true⟩]) (asm:=[(decide (i < n)) == false]) (eqs:=[]) (calls:=[]) (AV.vnil) (by kernel_rfl) (by kernel_rfl) (allB_cons (beq_f (fun h => d2 (i_dec.1 h))) allB_nil) allP_nil allC_nil H
noncomputable abbrev zTpM2:=ag [AV.mapr 1,AV.mapr 2,AV.mapr 3,AV.mapr 4,AV.mapr 5]
theorem tvXaa (sm st dp sz dn:List AV) (g:Bool) (l:List Bk) (q:List Bk) (v:Nat) (n i:Int)  (Q:AV -> Heap -> Prop) (H :
  ((i < n) -> (0 <= i) /\
   (i.toNat < l.length) /\
   (Sp.okW (l.getD i.toNat default).3) /\
   ((¬(Sp.cIs (l.getD i.toNat default).3 = true)) -> ((q.length + 1) * 48 <= 1099511627776) /\
    (-9223372036854775808 <= i + 1 /\ i + 1 <= 9223372036854775807) /\
    Wp M1 (.run fi46 (atC (cd Try.f46) [1,1,0,1,0,0]) [(0,AV.ptr 0 0 0 0),(5,AV.row 6 (v + 1)),(14,AV.vec g 3 (List.map Bk.a l)),(15,vi n),(16,vi (i + 1))] [{ elems:=[ag [AV.mapr 1,AV.mapr 2,AV.mapr 3,AV.mapr 4,AV.mapr 5]],es:=5,ver:=0,frozen:=false,clean:=false },{ elems:=sm,es:=2,ver:=0,frozen:=false,clean:=true },{ elems:=st,es:=2,ver:=0,frozen:=false,clean:=true },{ elems:=dp,es:=2,ver:=0,frozen:=false,clean:=true },{ elems:=sz,es:=2,ver:=0,frozen:=false,clean:=true },{ elems:=dn,es:=2,ver:=0,frozen:=false,clean:=true },{ elems:=List.map Bk.a (q ++ [{ sk:=(l.getD i.toNat default).1,f:=(l.getD i.toNat default).2,ws:=(l.getD i.toNat default).3,cm:=(l.getD i.toNat default).4 }]),es:=3,ver:=v + 1,frozen:=false,clean:=true },{ elems:=[ag [vb (l.getD i.toNat default).1,AV.vec (l.getD i.toNat default).2 2 (List.map Wo.a (l.getD i.toNat default).3),AV.str (l.getD i.toNat default).4]],es:=3,ver:=0,frozen:=false,clean:=false }]) Q) /\
   (¬(¬(Sp.cIs (l.getD i.toNat default).3 = true)) -> Wp M1 (.run fi46 (atC (cd Try.f46) [1,1,0,1,0,0,1,1,0,0,1,1,1]) [(0,AV.ptr 0 0 0 0),(5,AV.row 6 v),(8,vi (Sp.cN (l.getD i.toNat default).3)),(9,vi (Sp.cT (l.getD i.toNat default).3)),(14,AV.vec g 3 (List.map Bk.a l)),(15,vi n),(16,vi i)] [{ elems:=[ag [AV.mapr 1,AV.mapr 2,AV.mapr 3,AV.mapr 4,AV.mapr 5]],es:=5,ver:=0,frozen:=false,clean:=false },{ elems:=sm,es:=2,ver:=0,frozen:=false,clean:=true },{ elems:=st,es:=2,ver:=0,frozen:=false,clean:=true },{ elems:=dp,es:=2,ver:=0,frozen:=false,clean:=true },{ elems:=sz,es:=2,ver:=0,frozen:=false,clean:=true },{ elems:=dn,es:=2,ver:=0,frozen:=false,clean:=true },{ elems:=List.map Bk.a q,es:=3,ver:=v,frozen:=false,clean:=true },{ elems:=[ag [vb (l.getD i.toNat default).1,AV.vec (l.getD i.toNat default).2 2 (List.map Wo.a (l.getD i.toNat default).3),AV.str (l.getD i.toNat default).4]],es:=3,ver:=0,frozen:=false,clean:=false }]) Q)) /\
  (¬(i < n) -> Q (AV.row 6 v) [{ elems:=[ag [AV.mapr 1,AV.mapr 2,AV.mapr 3,AV.mapr 4,AV.mapr 5]],es:=5,ver:=0,frozen:=false,clean:=false },{ elems:=sm,es:=2,ver:=0,frozen:=false,clean:=true },{ elems:=st,es:=2,ver:=0,frozen:=false,clean:=true },{ elems:=dp,es:=2,ver:=0,frozen:=false,clean:=true },{ elems:=sz,es:=2,ver:=0,frozen:=false,clean:=true },{ elems:=dn,es:=2,ver:=0,frozen:=false,clean:=true },{ elems:=List.map Bk.a q,es:=3,ver:=v,frozen:=false,clean:=true }])) :
 tvXaa_at sm st dp sz dn g l q v n i Q:=by
 unfold tvXaa_at
 rcases xm (i < n) with d2 | d2
 ·have H:=H.1 d2
  obtain ⟨k4,H⟩:=H
  have w5:(List.map Bk.a l).length = l.length:=List.length_map ..
  have i6:(decide (i.toNat < (List.map Bk.a l).length)) = true ↔ (i.toNat < l.length):=(by (try rw [w5]);all_goals exact i_dec)
  obtain ⟨k7,H⟩:=H
  obtain ⟨k8,H⟩:=H
  refine path_wp (G:=given kp46 [(4,1,.elem (ag [vb (l.getD i.toNat default).1,AV.vec (l.getD i.toNat default).2 2 (List.map Wo.a (l.getD i.toNat default).3),AV.str (l.getD i.toNat default).4])),(5,1,.call (tu [vi (Sp.cN (l.getD i.toNat default).3),vi (Sp.cT (l.getD i.toNat default).3),vb (Sp.cIs (l.getD i.toNat default).3),vi (Sp.cE (l.getD i.toNat default).3)]) none)] []) 14 [true] ⟨(atC (cd Try.f46) [1,1,0,1,0,0,1,1,0,0,1,1,0,1]),[(0,AV.ptr 0 0 0 0),(5,AV.row 6 v),(7,AV.ptr 7 0 0 0),(8,vi (Sp.cN (l.getD i.toNat default).3)),(9,vi (Sp.cT (l.getD i.toNat default).3)),(14,AV.vec g 3 (List.map Bk.a l)),(15,vi n),(16,vi i),(28,vb !Sp.cIs (l.getD i.toNat default).3)],[⟨[zTpM2],5,0,false,false⟩,⟨sm,2,0,false,true⟩,⟨st,2,0,false,true⟩,⟨dp,2,0,false,true⟩,⟨sz,2,0,false,true⟩,⟨dn,2,0,false,true⟩,⟨List.map Bk.a q,3,v,false,true⟩,⟨[ag [vb (l.getD i.toNat default).1,AV.vec (l.getD i.toNat default).2 2 (List.map Wo.a (l.getD i.toNat default).3),AV.str (l.getD i.toNat default).4]],3,0,false,false⟩],_,[((List.map Bk.a l).get?Internal i.toNat = some (ag [vb (l.getD i.toNat default).1,AV.vec (l.getD i.toNat default).2 2 (List.map Wo.a (l.getD i.toNat default).3),AV.str (l.getD i.toNat default).4]))],_⟩ (by kernel_rfl) (bc (beq_t (i_dec.2 d2)) (bc (i_dec.2 k4) (bc (i6.2 k7) (bc rfl (bc rfl b0))))) (qc (el_map k7) q0) (ce (@ev13 ((l.getD i.toNat default).1) ((l.getD i.toNat default).2) ((l.getD i.toNat default).3) ((l.getD i.toNat default).4) k8) c0) ?_
  rcases xm (¬(Sp.cIs (l.getD i.toNat default).3 = true)) with d10 | d10
  ·have H:=H.1 d10
   have w11:(List.map Bk.a q).length = q.length:=List.length_map ..
   have i12:(decide (((List.map Bk.a q).length + 1) * 48 <= 1099511627776)) = true ↔ ((q.length + 1) * 48 <= 1099511627776):=(by (try rw [w11]);all_goals exact i_dec)
   obtain ⟨k13,H⟩:=H
   have w14:List.map Bk.a q ++ [ag [vb (l.getD i.toNat default).1,AV.vec (l.getD i.toNat default).2 2 (List.map Wo.a (l.getD i.toNat default).3),AV.str (l.getD i.toNat default).4]] = List.map Bk.a (q ++ [{ sk:=(l.getD i.toNat default).1,f:=(l.getD i.toNat default).2,ws:=(l.getD i.toNat default).3,cm:=(l.getD i.toNat default).4 }]):=(lm_app rfl rfl)
   obtain ⟨k15,H⟩:=H
   have w16:wi (i + 1) = i + 1:=wI64 k15
   exact path_wp (G:=given kp46 [] []) 1000 [true] ⟨(atC (cd Try.f46) [1,1,0,1,0,0]),[(0,AV.ptr 0 0 0 0),(5,AV.row 6 (v + 1)),(14,AV.vec g 3 (List.map Bk.a l)),(15,vi n),(16,vi (wi (i + 1)))],[⟨[zTpM2],5,0,false,false⟩,⟨sm,2,0,false,true⟩,⟨st,2,0,false,true⟩,⟨dp,2,0,false,true⟩,⟨sz,2,0,false,true⟩,⟨dn,2,0,false,true⟩,⟨List.map Bk.a q ++ [ag [vb (l.getD i.toNat default).1,AV.vec (l.getD i.toNat default).2 2 (List.map Wo.a (l.getD i.toNat default).3),AV.str (l.getD i.toNat default).4]],3,v + 1,false,true⟩,⟨[ag [vb (l.getD i.toNat default).1,AV.vec (l.getD i.toNat default).2 2 (List.map Wo.a (l.getD i.toNat default).3),AV.str (l.getD i.toNat default).4]],3,0,false,false⟩],[(!Sp.cIs (l.getD i.toNat default).3) == true,true,v == v,decide (((List.map Bk.a q).length + 1) * 48 <= 1099511627776)],[],_⟩ (by kernel_rfl) (bc (beq_t ((i_not (i_var _)).2 d10)) (bc rfl (bc (beq_self_eq_true _) (bc (i12.2 k13) b0)))) q0 c0 (by (try rw [w14]);(try rw [w16]);all_goals exact H)
  ·have H:=H.2 d10
   exact path_wp (G:=given kp46 [] []) 2 [false] ⟨(atC (cd Try.f46) [1,1,0,1,0,0,1,1,0,0,1,1,1]),[(0,AV.ptr 0 0 0 0),(5,AV.row 6 v),(7,AV.ptr 7 0 0 0),(8,vi (Sp.cN (l.getD i.toNat default).3)),(9,vi (Sp.cT (l.getD i.toNat default).3)),(14,AV.vec g 3 (List.map Bk.a l)),(15,vi n),(16,vi i),(28,vb !Sp.cIs (l.getD i.toNat default).3)],[⟨[zTpM2],5,0,false,false⟩,⟨sm,2,0,false,true⟩,⟨st,2,0,false,true⟩,⟨dp,2,0,false,true⟩,⟨sz,2,0,false,true⟩,⟨dn,2,0,false,true⟩,⟨List.map Bk.a q,3,v,false,true⟩,⟨[ag [vb (l.getD i.toNat default).1,AV.vec (l.getD i.toNat default).2 2 (List.map Wo.a (l.getD i.toNat default).3),AV.str (l.getD i.toNat default).4]],3,0,false,false⟩],[(!Sp.cIs (l.getD i.toNat default).3) == false],[],_⟩ (by kernel_rfl) (bc (beq_f (fun h => d10 ((i_not (i_var _)).1 h))) b0) q0 c0 (Wp.less [0,5,8,9,14,15,16] (H))
 ·have H:=H.2 d2
  exact path_ret (G:=given kp46 [] []) 1000 [false] (k:=((atC (cd Try.f46) [1,1,1,1])).tail) (env':=[(4,AV.row 6 v)]) (L':=[⟨[zTpM2],5,0,false,false⟩,⟨sm,2,0,false,true⟩,⟨st,2,0,false,true⟩,⟨dp,2,0,false,true⟩,⟨sz,2,0,false,true⟩,⟨dn,2,0,false,true⟩,⟨List.map Bk.a q,3,v,false,true⟩]) (asm:=[(decide (i < n)) == false]) (eqs:=[]) (calls:=[]) (AV.row 6 v) (by kernel_rfl) (by kernel_rfl) (allB_cons (beq_f (fun h => d2 (i_dec.1 h))) allB_nil) allP_nil allC_nil H
noncomputable abbrev zTpM3:=ag [AV.mapr 1,AV.mapr 2,AV.mapr 3,AV.mapr 4,AV.mapr 5]
theorem tvXkz (sm st dp sz dn:List AV) (g:Bool) (l:List Bk) (m t n i:Int) (bf:Bool) (Y:List Bk) (Q:AV -> Heap -> Prop) (H :
  (mapKeys IntKind.i64 dn = true) /\
  (mapVal (ofC (Value.slice none 0 0)) m dn = AV.vec bf 3 (List.map Bk.a Y)) /\
  ((¬(mapHas m dn = true)) -> False) /\
  (¬(¬(mapHas m dn = true)) -> (((↑Y.length:Int) = 0) -> (-9223372036854775808 <= i + 1 /\ i + 1 <= 9223372036854775807) /\
    tvXaz_at (sm) (st) (dp) (sz) (dn) (g) (l) (n) (i + 1) Q) /\
   (¬((↑Y.length:Int) = 0) -> Wp M1 (.run fi46 (atC (cd Try.f46) [1,1,0,1,0,0,1,1,0,0,1,1,1,1,1,1,1,0,0]) [(0,AV.ptr 0 0 0 0),(5,AV.vnil),(12,AV.vec bf 3 (List.map Bk.a Y)),(14,AV.vec g 3 (List.map Bk.a l)),(15,vi n),(16,vi i),(61,vi t),(62,vi 0)] [{ elems:=[ag [AV.mapr 1,AV.mapr 2,AV.mapr 3,AV.mapr 4,AV.mapr 5]],es:=5,ver:=0,frozen:=false,clean:=false },{ elems:=sm,es:=2,ver:=0,frozen:=false,clean:=true },{ elems:=st,es:=2,ver:=0,frozen:=false,clean:=true },{ elems:=dp,es:=2,ver:=0,frozen:=false,clean:=true },{ elems:=sz,es:=2,ver:=0,frozen:=false,clean:=true },{ elems:=dn,es:=2,ver:=0,frozen:=false,clean:=true }]) Q))) :
 tvXkz_at sm st dp sz dn g l m t n i Q:=by
 unfold tvXkz_at
 obtain ⟨k2,H⟩:=H
 obtain ⟨k3,H⟩:=H
 refine path_wp (G:=given kp46 [(8,5,(.elem (.vec bf 3 (Y.map Bk.a)):Ans))] []) 5 [] ⟨(atC (cd Try.f46) [1,1,0,1,0,0,1,1,0,0,1,1,1,1,0,1]),[(0,AV.ptr 0 0 0 0),(5,AV.vnil),(8,vi m),(9,vi t),(12,AV.vec bf 3 (List.map Bk.a Y)),(14,AV.vec g 3 (List.map Bk.a l)),(15,vi n),(16,vi i),(43,vb !mapHas m dn)],[⟨[zTpM3],5,0,false,false⟩,⟨sm,2,0,false,true⟩,⟨st,2,0,false,true⟩,⟨dp,2,0,false,true⟩,⟨sz,2,0,false,true⟩,⟨dn,2,0,false,true⟩],[true,mapKeys IntKind.i64 dn],[(mapVal (ofC (Value.slice none 0 0)) m dn = AV.vec bf 3 (List.map Bk.a Y))],_⟩ (by kernel_rfl) (bc rfl (bc ((i_var _).2 k2) b0)) (qc k3 q0) c0 ?_
 rcases xm (¬(mapHas m dn = true)) with d5 | d5
 ·have H:=H.1 d5
  exact False.elim H
 ·have H:=H.2 d5
  have w6:(List.map Bk.a Y).length = Y.length:=List.length_map ..
  have i7:((↑(List.map Bk.a Y).length:Int) == 0) = true ↔ ((↑Y.length:Int) = 0):=(by (try rw [w6]);all_goals exact i_eq)
  rcases xm ((↑Y.length:Int) = 0) with d8 | d8
  ·have H:=H.1 d8
   obtain ⟨k9,H⟩:=H
   have w10:wi (i + 1) = i + 1:=wI64 k9
   exact path_wp (G:=given kp46 [] []) 1000 [false,true] ⟨(atC (cd Try.f46) [1,1,0,1,0,0]),[(0,AV.ptr 0 0 0 0),(5,AV.vnil),(14,AV.vec g 3 (List.map Bk.a l)),(15,vi n),(16,vi (wi (i + 1)))],[⟨[zTpM3],5,0,false,false⟩,⟨sm,2,0,false,true⟩,⟨st,2,0,false,true⟩,⟨dp,2,0,false,true⟩,⟨sz,2,0,false,true⟩,⟨dn,2,0,false,true⟩],[(!mapHas m dn) == false,((↑(List.map Bk.a Y).length:Int) == 0) == true],[],_⟩ (by kernel_rfl) (bc (beq_f (fun h => d5 ((i_not (i_var _)).1 h))) (bc (beq_t (i7.2 d8)) b0)) q0 c0 (by (try rw [w10]);all_goals exact H)
  ·have H:=H.2 d8
   exact path_wp (G:=given kp46 [] []) 1000 [false,false] ⟨(atC (cd Try.f46) [1,1,0,1,0,0,1,1,0,0,1,1,1,1,1,1,1,0,0]),[(0,AV.ptr 0 0 0 0),(5,AV.vnil),(12,AV.vec bf 3 (List.map Bk.a Y)),(14,AV.vec g 3 (List.map Bk.a l)),(15,vi n),(16,vi i),(61,vi t),(62,vi 0)],[⟨[zTpM3],5,0,false,false⟩,⟨sm,2,0,false,true⟩,⟨st,2,0,false,true⟩,⟨dp,2,0,false,true⟩,⟨sz,2,0,false,true⟩,⟨dn,2,0,false,true⟩],[(!mapHas m dn) == false,((↑(List.map Bk.a Y).length:Int) == 0) == false],[],_⟩ (by kernel_rfl) (bc (beq_f (fun h => d5 ((i_not (i_var _)).1 h))) (bc (beq_f (fun h => d8 (i7.1 h))) b0)) q0 c0 (H)
noncomputable abbrev zTpM4:=ag [AV.mapr 1,AV.mapr 2,AV.mapr 3,AV.mapr 4,AV.mapr 5]
theorem tvXka (sm st dp sz dn:List AV) (g:Bool) (l:List Bk) (q:List Bk) (v:Nat) (m t n i:Int) (bf:Bool) (Y:List Bk) (Q:AV -> Heap -> Prop) (H :
  (mapKeys IntKind.i64 dn = true) /\
  (mapVal (ofC (Value.slice none 0 0)) m dn = AV.vec bf 3 (List.map Bk.a Y)) /\
  ((¬(mapHas m dn = true)) -> False) /\
  (¬(¬(mapHas m dn = true)) -> (((↑Y.length:Int) = 0) -> (-9223372036854775808 <= i + 1 /\ i + 1 <= 9223372036854775807) /\
    tvXaa_at (sm) (st) (dp) (sz) (dn) (g) (l) (q) (v) (n) (i + 1) Q) /\
   (¬((↑Y.length:Int) = 0) -> tvXra_at (sm) (st) (dp) (sz) (dn) (g) (l) (q) (v) (bf) (Y) (t) (0) (n) (i) Q))) :
 tvXka_at sm st dp sz dn g l q v m t n i Q:=by
 unfold tvXka_at
 obtain ⟨k2,H⟩:=H
 obtain ⟨k3,H⟩:=H
 refine path_wp (G:=given kp46 [(8,5,(.elem (.vec bf 3 (Y.map Bk.a)):Ans))] []) 5 [] ⟨(atC (cd Try.f46) [1,1,0,1,0,0,1,1,0,0,1,1,1,1,0,1]),[(0,AV.ptr 0 0 0 0),(5,AV.row 6 v),(8,vi m),(9,vi t),(12,AV.vec bf 3 (List.map Bk.a Y)),(14,AV.vec g 3 (List.map Bk.a l)),(15,vi n),(16,vi i),(43,vb !mapHas m dn)],[⟨[zTpM4],5,0,false,false⟩,⟨sm,2,0,false,true⟩,⟨st,2,0,false,true⟩,⟨dp,2,0,false,true⟩,⟨sz,2,0,false,true⟩,⟨dn,2,0,false,true⟩,⟨List.map Bk.a q,3,v,false,true⟩],[true,mapKeys IntKind.i64 dn],[(mapVal (ofC (Value.slice none 0 0)) m dn = AV.vec bf 3 (List.map Bk.a Y))],_⟩ (by kernel_rfl) (bc rfl (bc ((i_var _).2 k2) b0)) (qc k3 q0) c0 ?_
 rcases xm (¬(mapHas m dn = true)) with d5 | d5
 ·have H:=H.1 d5
  exact False.elim H
 ·have H:=H.2 d5
  have w6:(List.map Bk.a Y).length = Y.length:=List.length_map ..
  have i7:((↑(List.map Bk.a Y).length:Int) == 0) = true ↔ ((↑Y.length:Int) = 0):=(by (try rw [w6]);all_goals exact i_eq)
  rcases xm ((↑Y.length:Int) = 0) with d8 | d8
  ·have H:=H.1 d8
   obtain ⟨k9,H⟩:=H
   have w10:wi (i + 1) = i + 1:=wI64 k9
   exact path_wp (G:=given kp46 [] []) 1000 [false,true] ⟨(atC (cd Try.f46) [1,1,0,1,0,0]),[(0,AV.ptr 0 0 0 0),(5,AV.row 6 v),(14,AV.vec g 3 (List.map Bk.a l)),(15,vi n),(16,vi (wi (i + 1)))],[⟨[zTpM4],5,0,false,false⟩,⟨sm,2,0,false,true⟩,⟨st,2,0,false,true⟩,⟨dp,2,0,false,true⟩,⟨sz,2,0,false,true⟩,⟨dn,2,0,false,true⟩,⟨List.map Bk.a q,3,v,false,true⟩],[(!mapHas m dn) == false,((↑(List.map Bk.a Y).length:Int) == 0) == true],[],_⟩ (by kernel_rfl) (bc (beq_f (fun h => d5 ((i_not (i_var _)).1 h))) (bc (beq_t (i7.2 d8)) b0)) q0 c0 (by (try rw [w10]);all_goals exact H)
  ·have H:=H.2 d8
   exact path_wp (G:=given kp46 [] []) 1000 [false,false] ⟨(atC (cd Try.f46) [1,1,0,1,0,0,1,1,0,0,1,1,1,1,1,1,1,0,0]),[(0,AV.ptr 0 0 0 0),(5,AV.row 6 v),(12,AV.vec bf 3 (List.map Bk.a Y)),(14,AV.vec g 3 (List.map Bk.a l)),(15,vi n),(16,vi i),(61,vi t),(62,vi 0)],[⟨[zTpM4],5,0,false,false⟩,⟨sm,2,0,false,true⟩,⟨st,2,0,false,true⟩,⟨dp,2,0,false,true⟩,⟨sz,2,0,false,true⟩,⟨dn,2,0,false,true⟩,⟨List.map Bk.a q,3,v,false,true⟩],[(!mapHas m dn) == false,((↑(List.map Bk.a Y).length:Int) == 0) == false],[],_⟩ (by kernel_rfl) (bc (beq_f (fun h => d5 ((i_not (i_var _)).1 h))) (bc (beq_f (fun h => d8 (i7.1 h))) b0)) q0 c0 (H)
noncomputable abbrev zTpM5:=ag [AV.mapr 1,AV.mapr 2,AV.mapr 3,AV.mapr 4,AV.mapr 5]
theorem tvXuz (sm st dp sz dn:List AV) (g:Bool) (l:List Bk) (m t n i:Int) (bs:Bool) (S:List Bk) (bf:Bool) (Y:List Bk) (dn1:List AV) (Q:AV -> Heap -> Prop) (H :
  (mapKeys IntKind.i64 dn = true) /\
  (mapVal (ofC (Value.slice none 0 0)) m dn = AV.vnil) /\
  ((¬(mapHas m dn = true)) -> (Ev M1 (Conf.own 46 [AV.ptr 0 0 0 0,AV.vec bs 3 (List.map Bk.a S)] [{ elems:=[ag [AV.mapr 1,AV.mapr 2,AV.mapr 3,AV.mapr 4,AV.mapr 5]],es:=5,ver:=0,frozen:=false,clean:=false },{ elems:=sm,es:=2,ver:=0,frozen:=false,clean:=true },{ elems:=st,es:=2,ver:=0,frozen:=false,clean:=true },{ elems:=dp,es:=2,ver:=0,frozen:=false,clean:=true },{ elems:=sz,es:=2,ver:=0,frozen:=false,clean:=true },{ elems:=dn,es:=2,ver:=0,frozen:=false,clean:=true }]) (AV.vec bf 3 (List.map Bk.a Y)) [{ elems:=[ag [AV.mapr 1,AV.mapr 2,AV.mapr 3,AV.mapr 4,AV.mapr 5]],es:=5,ver:=0,frozen:=false,clean:=false },{ elems:=sm,es:=2,ver:=0,frozen:=false,clean:=true },{ elems:=st,es:=2,ver:=0,frozen:=false,clean:=true },{ elems:=dp,es:=2,ver:=0,frozen:=false,clean:=true },{ elems:=sz,es:=2,ver:=0,frozen:=false,clean:=true },{ elems:=dn1,es:=2,ver:=0,frozen:=false,clean:=true }]) /\
   (mapKeys IntKind.i64 sm = true) /\
   (mapVal (ofC (Value.slice none 0 0)) m sm = AV.vec bs 3 (List.map Bk.a S)) /\
   (mapKeys IntKind.i64 dn1 = true) /\
   (((↑Y.length:Int) = 0) -> (-9223372036854775808 <= i + 1 /\ i + 1 <= 9223372036854775807) /\
    tvXaz_at (sm) (st) (dp) (sz) (mapPut IntKind.i64 m (AV.vec bf 3 (List.map Bk.a Y)) dn1) (g) (l) (n) (i + 1) Q) /\
   (¬((↑Y.length:Int) = 0) -> Wp M1 (.run fi46 (atC (cd Try.f46) [1,1,0,1,0,0,1,1,0,0,1,1,1,1,1,1,1,0,0]) [(0,AV.ptr 0 0 0 0),(5,AV.vnil),(12,AV.vec bf 3 (List.map Bk.a Y)),(14,AV.vec g 3 (List.map Bk.a l)),(15,vi n),(16,vi i),(61,vi t),(62,vi 0)] [{ elems:=[ag [AV.mapr 1,AV.mapr 2,AV.mapr 3,AV.mapr 4,AV.mapr 5]],es:=5,ver:=0,frozen:=false,clean:=false },{ elems:=sm,es:=2,ver:=0,frozen:=false,clean:=true },{ elems:=st,es:=2,ver:=0,frozen:=false,clean:=true },{ elems:=dp,es:=2,ver:=0,frozen:=false,clean:=true },{ elems:=sz,es:=2,ver:=0,frozen:=false,clean:=true },{ elems:=mapPut IntKind.i64 m (AV.vec bf 3 (List.map Bk.a Y)) dn1,es:=2,ver:=0,frozen:=false,clean:=true }]) Q)) /\
  (¬(¬(mapHas m dn = true)) -> (-9223372036854775808 <= i + 1 /\ i + 1 <= 9223372036854775807) /\
   tvXaz_at (sm) (st) (dp) (sz) (dn) (g) (l) (n) (i + 1) Q)) :
 tvXuz_at sm st dp sz dn g l m t n i Q:=by
 unfold tvXuz_at
 obtain ⟨k2,H⟩:=H
 obtain ⟨k3,H⟩:=H
 refine path_wp (G:=given kp46 [(8,5,(.elem .vnil:Ans))] []) 5 [] ⟨(atC (cd Try.f46) [1,1,0,1,0,0,1,1,0,0,1,1,1,1,0,1]),[(0,AV.ptr 0 0 0 0),(5,AV.vnil),(8,vi m),(9,vi t),(12,AV.vnil),(14,AV.vec g 3 (List.map Bk.a l)),(15,vi n),(16,vi i),(43,vb !mapHas m dn)],[⟨[zTpM5],5,0,false,false⟩,⟨sm,2,0,false,true⟩,⟨st,2,0,false,true⟩,⟨dp,2,0,false,true⟩,⟨sz,2,0,false,true⟩,⟨dn,2,0,false,true⟩],[true,mapKeys IntKind.i64 dn],[(mapVal (ofC (Value.slice none 0 0)) m dn = AV.vnil)],_⟩ (by kernel_rfl) (bc rfl (bc ((i_var _).2 k2) b0)) (qc k3 q0) c0 ?_
 rcases xm (¬(mapHas m dn = true)) with d5 | d5
 ·have H:=H.1 d5
  obtain ⟨k6,H⟩:=H
  obtain ⟨k8,H⟩:=H
  obtain ⟨k9,H⟩:=H
  obtain ⟨k11,H⟩:=H
  have w12:(List.map Bk.a Y).length = Y.length:=List.length_map ..
  have i13:((↑(List.map Bk.a Y).length:Int) == 0) = true ↔ ((↑Y.length:Int) = 0):=(by (try rw [w12]);all_goals exact i_eq)
  refine path_wp (G:=given kp46 [(10,6,(.elem (.vec bs 3 (S.map Bk.a)):Ans)),(10,7,(.call (.vec bf 3 (Y.map Bk.a)) (some [⟨[.agg [.mapr 1,.mapr 2,.mapr 3,.mapr 4,.mapr 5]],5,0,false,false⟩,⟨sm,2,0,false,true⟩,⟨st,2,0,false,true⟩,⟨dp,2,0,false,true⟩,⟨sz,2,0,false,true⟩,⟨dn1,2,0,false,true⟩]):Ans))] []) 7 [true] ⟨(atC (cd Try.f46) [1,1,0,1,0,0,1,1,0,0,1,1,1,1,1,0,1]),[(0,AV.ptr 0 0 0 0),(5,AV.vnil),(9,vi t),(12,AV.vec bf 3 (List.map Bk.a Y)),(14,AV.vec g 3 (List.map Bk.a l)),(15,vi n),(16,vi i),(60,vb ((↑(List.map Bk.a Y).length:Int) == 0))],[⟨[zTpM5],5,0,false,false⟩,⟨sm,2,0,false,true⟩,⟨st,2,0,false,true⟩,⟨dp,2,0,false,true⟩,⟨sz,2,0,false,true⟩,⟨mapPut IntKind.i64 m (AV.vec bf 3 (List.map Bk.a Y)) dn1,2,0,false,true⟩],[(!mapHas m dn) == true,true,mapKeys IntKind.i64 sm,true,mapKeys IntKind.i64 dn1],[(mapVal (ofC (Value.slice none 0 0)) m sm = AV.vec bs 3 (List.map Bk.a S))],[⟨true,true,46,[AV.ptr 0 0 0 0,AV.vec bs 3 (List.map Bk.a S)],[⟨[zTpM5],5,0,false,false⟩,⟨sm,2,0,false,true⟩,⟨st,2,0,false,true⟩,⟨dp,2,0,false,true⟩,⟨sz,2,0,false,true⟩,⟨dn,2,0,false,true⟩],AV.vec bf 3 (List.map Bk.a Y),[⟨[zTpM5],5,0,false,false⟩,⟨sm,2,0,false,true⟩,⟨st,2,0,false,true⟩,⟨dp,2,0,false,true⟩,⟨sz,2,0,false,true⟩,⟨dn1,2,0,false,true⟩]⟩]⟩ (by kernel_rfl) (bc (beq_t ((i_not (i_var _)).2 d5)) (bc rfl (bc ((i_var _).2 k8) (bc rfl (bc ((i_var _).2 k11) b0))))) (qc k9 q0) (cc (fun _ => k6) c0) ?_
  rcases xm ((↑Y.length:Int) = 0) with d14 | d14
  ·have H:=H.1 d14
   obtain ⟨k15,H⟩:=H
   have w16:wi (i + 1) = i + 1:=wI64 k15
   exact path_wp (G:=given kp46 [] []) 1000 [true] ⟨(atC (cd Try.f46) [1,1,0,1,0,0]),[(0,AV.ptr 0 0 0 0),(5,AV.vnil),(14,AV.vec g 3 (List.map Bk.a l)),(15,vi n),(16,vi (wi (i + 1)))],[⟨[zTpM5],5,0,false,false⟩,⟨sm,2,0,false,true⟩,⟨st,2,0,false,true⟩,⟨dp,2,0,false,true⟩,⟨sz,2,0,false,true⟩,⟨mapPut IntKind.i64 m (AV.vec bf 3 (List.map Bk.a Y)) dn1,2,0,false,true⟩],_,[],_⟩ (by kernel_rfl) (bc (beq_t (i13.2 d14)) b0) q0 c0 (by (try rw [w16]);all_goals exact H)
  ·have H:=H.2 d14
   exact path_wp (G:=given kp46 [] []) 1000 [false] ⟨(atC (cd Try.f46) [1,1,0,1,0,0,1,1,0,0,1,1,1,1,1,1,1,0,0]),[(0,AV.ptr 0 0 0 0),(5,AV.vnil),(12,AV.vec bf 3 (List.map Bk.a Y)),(14,AV.vec g 3 (List.map Bk.a l)),(15,vi n),(16,vi i),(61,vi t),(62,vi 0)],[⟨[zTpM5],5,0,false,false⟩,⟨sm,2,0,false,true⟩,⟨st,2,0,false,true⟩,⟨dp,2,0,false,true⟩,⟨sz,2,0,false,true⟩,⟨mapPut IntKind.i64 m (AV.vec bf 3 (List.map Bk.a Y)) dn1,2,0,false,true⟩],_,[],_⟩ (by kernel_rfl) (bc (beq_f (fun h => d14 (i13.1 h))) b0) q0 c0 (H)
 ·have H:=H.2 d5
  obtain ⟨k17,H⟩:=H
  have w18:wi (i + 1) = i + 1:=wI64 k17
  exact path_wp (G:=given kp46 [] []) 1000 [false,true] ⟨(atC (cd Try.f46) [1,1,0,1,0,0]),[(0,AV.ptr 0 0 0 0),(5,AV.vnil),(14,AV.vec g 3 (List.map Bk.a l)),(15,vi n),(16,vi (wi (i + 1)))],[⟨[zTpM5],5,0,false,false⟩,⟨sm,2,0,false,true⟩,⟨st,2,0,false,true⟩,⟨dp,2,0,false,true⟩,⟨sz,2,0,false,true⟩,⟨dn,2,0,false,true⟩],[(!mapHas m dn) == false,true == true],[],_⟩ (by kernel_rfl) (bc (beq_f (fun h => d5 ((i_not (i_var _)).1 h))) (bc rfl b0)) q0 c0 (by (try rw [w18]);all_goals exact H)
noncomputable abbrev zTpM6:=ag [AV.mapr 1,AV.mapr 2,AV.mapr 3,AV.mapr 4,AV.mapr 5]
theorem tvXua (sm st dp sz dn:List AV) (g:Bool) (l:List Bk) (q:List Bk) (v:Nat) (m t n i:Int) (bs:Bool) (S:List Bk) (bf:Bool) (Y:List Bk) (dn1:List AV) (Q:AV -> Heap -> Prop) (H :
  (mapKeys IntKind.i64 dn = true) /\
  (mapVal (ofC (Value.slice none 0 0)) m dn = AV.vnil) /\
  ((¬(mapHas m dn = true)) -> (Ev M1 (Conf.own 46 [AV.ptr 0 0 0 0,AV.vec bs 3 (List.map Bk.a S)] [{ elems:=[ag [AV.mapr 1,AV.mapr 2,AV.mapr 3,AV.mapr 4,AV.mapr 5]],es:=5,ver:=0,frozen:=false,clean:=false },{ elems:=sm,es:=2,ver:=0,frozen:=false,clean:=true },{ elems:=st,es:=2,ver:=0,frozen:=false,clean:=true },{ elems:=dp,es:=2,ver:=0,frozen:=false,clean:=true },{ elems:=sz,es:=2,ver:=0,frozen:=false,clean:=true },{ elems:=dn,es:=2,ver:=0,frozen:=false,clean:=true }]) (AV.vec bf 3 (List.map Bk.a Y)) [{ elems:=[ag [AV.mapr 1,AV.mapr 2,AV.mapr 3,AV.mapr 4,AV.mapr 5]],es:=5,ver:=0,frozen:=false,clean:=false },{ elems:=sm,es:=2,ver:=0,frozen:=false,clean:=true },{ elems:=st,es:=2,ver:=0,frozen:=false,clean:=true },{ elems:=dp,es:=2,ver:=0,frozen:=false,clean:=true },{ elems:=sz,es:=2,ver:=0,frozen:=false,clean:=true },{ elems:=dn1,es:=2,ver:=0,frozen:=false,clean:=true }]) /\
   (mapKeys IntKind.i64 sm = true) /\
   (mapVal (ofC (Value.slice none 0 0)) m sm = AV.vec bs 3 (List.map Bk.a S)) /\
   (mapKeys IntKind.i64 dn1 = true) /\
   (((↑Y.length:Int) = 0) -> (-9223372036854775808 <= i + 1 /\ i + 1 <= 9223372036854775807) /\
    tvXaa_at (sm) (st) (dp) (sz) (mapPut IntKind.i64 m (AV.vec bf 3 (List.map Bk.a Y)) dn1) (g) (l) (q) (v) (n) (i + 1) Q) /\
   (¬((↑Y.length:Int) = 0) -> tvXra_at (sm) (st) (dp) (sz) (mapPut IntKind.i64 m (AV.vec bf 3 (List.map Bk.a Y)) dn1) (g) (l) (q) (v) (bf) (Y) (t) (0) (n) (i) Q)) /\
  (¬(¬(mapHas m dn = true)) -> (-9223372036854775808 <= i + 1 /\ i + 1 <= 9223372036854775807) /\
   tvXaa_at (sm) (st) (dp) (sz) (dn) (g) (l) (q) (v) (n) (i + 1) Q)) :
 tvXua_at sm st dp sz dn g l q v m t n i Q:=by
 unfold tvXua_at
 obtain ⟨k2,H⟩:=H
 obtain ⟨k3,H⟩:=H
 refine path_wp (G:=given kp46 [(8,5,(.elem .vnil:Ans))] []) 5 [] ⟨(atC (cd Try.f46) [1,1,0,1,0,0,1,1,0,0,1,1,1,1,0,1]),[(0,AV.ptr 0 0 0 0),(5,AV.row 6 v),(8,vi m),(9,vi t),(12,AV.vnil),(14,AV.vec g 3 (List.map Bk.a l)),(15,vi n),(16,vi i),(43,vb !mapHas m dn)],[⟨[zTpM6],5,0,false,false⟩,⟨sm,2,0,false,true⟩,⟨st,2,0,false,true⟩,⟨dp,2,0,false,true⟩,⟨sz,2,0,false,true⟩,⟨dn,2,0,false,true⟩,⟨List.map Bk.a q,3,v,false,true⟩],[true,mapKeys IntKind.i64 dn],[(mapVal (ofC (Value.slice none 0 0)) m dn = AV.vnil)],_⟩ (by kernel_rfl) (bc rfl (bc ((i_var _).2 k2) b0)) (qc k3 q0) c0 ?_
 rcases xm (¬(mapHas m dn = true)) with d5 | d5
 ·have H:=H.1 d5
  obtain ⟨k6,H⟩:=H
  obtain ⟨k8,H⟩:=H
  obtain ⟨k9,H⟩:=H
  obtain ⟨k11,H⟩:=H
  have w12:(List.map Bk.a Y).length = Y.length:=List.length_map ..
  have i13:((↑(List.map Bk.a Y).length:Int) == 0) = true ↔ ((↑Y.length:Int) = 0):=(by (try rw [w12]);all_goals exact i_eq)
  refine path_wp (G:=given kp46 [(10,6,(.elem (.vec bs 3 (S.map Bk.a)):Ans)),(10,7,(.call (.vec bf 3 (Y.map Bk.a)) (some [⟨[.agg [.mapr 1,.mapr 2,.mapr 3,.mapr 4,.mapr 5]],5,0,false,false⟩,⟨sm,2,0,false,true⟩,⟨st,2,0,false,true⟩,⟨dp,2,0,false,true⟩,⟨sz,2,0,false,true⟩,⟨dn1,2,0,false,true⟩]):Ans))] []) 7 [true] ⟨(atC (cd Try.f46) [1,1,0,1,0,0,1,1,0,0,1,1,1,1,1,0,1]),[(0,AV.ptr 0 0 0 0),(5,AV.row 6 v),(9,vi t),(12,AV.vec bf 3 (List.map Bk.a Y)),(14,AV.vec g 3 (List.map Bk.a l)),(15,vi n),(16,vi i),(60,vb ((↑(List.map Bk.a Y).length:Int) == 0))],[⟨[zTpM6],5,0,false,false⟩,⟨sm,2,0,false,true⟩,⟨st,2,0,false,true⟩,⟨dp,2,0,false,true⟩,⟨sz,2,0,false,true⟩,⟨mapPut IntKind.i64 m (AV.vec bf 3 (List.map Bk.a Y)) dn1,2,0,false,true⟩,⟨List.map Bk.a q,3,v,false,true⟩],[(!mapHas m dn) == true,true,mapKeys IntKind.i64 sm,true,mapKeys IntKind.i64 dn1],[(mapVal (ofC (Value.slice none 0 0)) m sm = AV.vec bs 3 (List.map Bk.a S))],[⟨true,true,46,[AV.ptr 0 0 0 0,AV.vec bs 3 (List.map Bk.a S)],[⟨[zTpM6],5,0,false,false⟩,⟨sm,2,0,false,true⟩,⟨st,2,0,false,true⟩,⟨dp,2,0,false,true⟩,⟨sz,2,0,false,true⟩,⟨dn,2,0,false,true⟩],AV.vec bf 3 (List.map Bk.a Y),[⟨[zTpM6],5,0,false,false⟩,⟨sm,2,0,false,true⟩,⟨st,2,0,false,true⟩,⟨dp,2,0,false,true⟩,⟨sz,2,0,false,true⟩,⟨dn1,2,0,false,true⟩]⟩]⟩ (by kernel_rfl) (bc (beq_t ((i_not (i_var _)).2 d5)) (bc rfl (bc ((i_var _).2 k8) (bc rfl (bc ((i_var _).2 k11) b0))))) (qc k9 q0) (cc (fun _ => k6) c0) ?_
  rcases xm ((↑Y.length:Int) = 0) with d14 | d14
  ·have H:=H.1 d14
   obtain ⟨k15,H⟩:=H
   have w16:wi (i + 1) = i + 1:=wI64 k15
   exact path_wp (G:=given kp46 [] []) 1000 [true] ⟨(atC (cd Try.f46) [1,1,0,1,0,0]),[(0,AV.ptr 0 0 0 0),(5,AV.row 6 v),(14,AV.vec g 3 (List.map Bk.a l)),(15,vi n),(16,vi (wi (i + 1)))],[⟨[zTpM6],5,0,false,false⟩,⟨sm,2,0,false,true⟩,⟨st,2,0,false,true⟩,⟨dp,2,0,false,true⟩,⟨sz,2,0,false,true⟩,⟨mapPut IntKind.i64 m (AV.vec bf 3 (List.map Bk.a Y)) dn1,2,0,false,true⟩,⟨List.map Bk.a q,3,v,false,true⟩],_,[],_⟩ (by kernel_rfl) (bc (beq_t (i13.2 d14)) b0) q0 c0 (by (try rw [w16]);all_goals exact H)
  ·have H:=H.2 d14
   exact path_wp (G:=given kp46 [] []) 1000 [false] ⟨(atC (cd Try.f46) [1,1,0,1,0,0,1,1,0,0,1,1,1,1,1,1,1,0,0]),[(0,AV.ptr 0 0 0 0),(5,AV.row 6 v),(12,AV.vec bf 3 (List.map Bk.a Y)),(14,AV.vec g 3 (List.map Bk.a l)),(15,vi n),(16,vi i),(61,vi t),(62,vi 0)],[⟨[zTpM6],5,0,false,false⟩,⟨sm,2,0,false,true⟩,⟨st,2,0,false,true⟩,⟨dp,2,0,false,true⟩,⟨sz,2,0,false,true⟩,⟨mapPut IntKind.i64 m (AV.vec bf 3 (List.map Bk.a Y)) dn1,2,0,false,true⟩,⟨List.map Bk.a q,3,v,false,true⟩],_,[],_⟩ (by kernel_rfl) (bc (beq_f (fun h => d14 (i13.1 h))) b0) q0 c0 (H)
 ·have H:=H.2 d5
  obtain ⟨k17,H⟩:=H
  have w18:wi (i + 1) = i + 1:=wI64 k17
  exact path_wp (G:=given kp46 [] []) 1000 [false,true] ⟨(atC (cd Try.f46) [1,1,0,1,0,0]),[(0,AV.ptr 0 0 0 0),(5,AV.row 6 v),(14,AV.vec g 3 (List.map Bk.a l)),(15,vi n),(16,vi (wi (i + 1)))],[⟨[zTpM6],5,0,false,false⟩,⟨sm,2,0,false,true⟩,⟨st,2,0,false,true⟩,⟨dp,2,0,false,true⟩,⟨sz,2,0,false,true⟩,⟨dn,2,0,false,true⟩,⟨List.map Bk.a q,3,v,false,true⟩],[(!mapHas m dn) == false,true == true],[],_⟩ (by kernel_rfl) (bc (beq_f (fun h => d5 ((i_not (i_var _)).1 h))) (bc rfl b0)) q0 c0 (by (try rw [w18]);all_goals exact H)
theorem tvXrz (sm st dp sz dn:List AV) (g:Bool) (l:List Bk) (bf:Bool) (y:Bk) (Y:List Bk) (t k n i:Int)  (Q:AV -> Heap -> Prop) (H :
  ((k < t) -> ((Y.length + 1) * 48 <= 1099511627776) /\
   (-9223372036854775808 <= k + 1 /\ k + 1 <= 9223372036854775807) /\
   Wp M1 (.run fi46 (atC (cd Try.f46) [1,1,0,1,0,0,1,1,0,0,1,1,1,1,1,1,1,0,0]) [(0,AV.ptr 0 0 0 0),(5,AV.row 6 0),(12,AV.vec bf 3 (ag [vb y.1,AV.vec y.2 2 (List.map Wo.a y.3),AV.str y.4] :: List.map Bk.a Y)),(14,AV.vec g 3 (List.map Bk.a l)),(15,vi n),(16,vi i),(61,vi t),(62,vi (k + 1))] [{ elems:=[ag [AV.mapr 1,AV.mapr 2,AV.mapr 3,AV.mapr 4,AV.mapr 5]],es:=5,ver:=0,frozen:=false,clean:=false },{ elems:=sm,es:=2,ver:=0,frozen:=false,clean:=true },{ elems:=st,es:=2,ver:=0,frozen:=false,clean:=true },{ elems:=dp,es:=2,ver:=0,frozen:=false,clean:=true },{ elems:=sz,es:=2,ver:=0,frozen:=false,clean:=true },{ elems:=dn,es:=2,ver:=0,frozen:=false,clean:=true },{ elems:=ag [vb y.1,AV.vec y.2 2 (List.map Wo.a y.3),AV.str y.4] :: List.map Bk.a Y,es:=3,ver:=0,frozen:=false,clean:=true }]) Q) /\
  (¬(k < t) -> (-9223372036854775808 <= i + 1 /\ i + 1 <= 9223372036854775807) /\
   tvXaz_at (sm) (st) (dp) (sz) (dn) (g) (l) (n) (i + 1) Q)) :
 tvXrz_at sm st dp sz dn g l bf y Y t k n i Q:=by
 unfold tvXrz_at
 rcases xm (k < t) with d2 | d2
 ·have H:=H.1 d2
  have w3:(List.map Bk.a Y).length = Y.length:=List.length_map ..
  have i4:(decide (((List.map Bk.a Y).length + 1) * 48 <= 1099511627776)) = true ↔ ((Y.length + 1) * 48 <= 1099511627776):=(by (try rw [w3]);all_goals exact i_dec)
  obtain ⟨k5,H⟩:=H
  obtain ⟨k6,H⟩:=H
  have w7:wi (k + 1) = k + 1:=wI64 k6
  exact path_wp (G:=given kp46 [] []) 1000 [true] ⟨(atC (cd Try.f46) [1,1,0,1,0,0,1,1,0,0,1,1,1,1,1,1,1,0,0]),[(0,AV.ptr 0 0 0 0),(5,AV.row 6 0),(12,AV.vec bf 3 (ag [vb y.1,AV.vec y.2 2 (List.map Wo.a y.3),AV.str y.4] :: List.map Bk.a Y)),(14,AV.vec g 3 (List.map Bk.a l)),(15,vi n),(16,vi i),(61,vi t),(62,vi (wi (k + 1)))],[⟨[ag [AV.mapr 1,AV.mapr 2,AV.mapr 3,AV.mapr 4,AV.mapr 5]],5,0,false,false⟩,⟨sm,2,0,false,true⟩,⟨st,2,0,false,true⟩,⟨dp,2,0,false,true⟩,⟨sz,2,0,false,true⟩,⟨dn,2,0,false,true⟩,⟨ag [vb y.1,AV.vec y.2 2 (List.map Wo.a y.3),AV.str y.4] :: List.map Bk.a Y,3,0,false,true⟩],_,[],_⟩ (by kernel_rfl) (bc (beq_t (i_dec.2 d2)) (bc (i4.2 k5) b0)) q0 c0 (by (try rw [w7]);all_goals exact H)
 ·have H:=H.2 d2
  obtain ⟨k8,H⟩:=H
  have w9:wi (i + 1) = i + 1:=wI64 k8
  exact path_wp (G:=given kp46 [] []) 1000 [false] ⟨(atC (cd Try.f46) [1,1,0,1,0,0]),[(0,AV.ptr 0 0 0 0),(5,AV.vnil),(14,AV.vec g 3 (List.map Bk.a l)),(15,vi n),(16,vi (wi (i + 1)))],[⟨[ag [AV.mapr 1,AV.mapr 2,AV.mapr 3,AV.mapr 4,AV.mapr 5]],5,0,false,false⟩,⟨sm,2,0,false,true⟩,⟨st,2,0,false,true⟩,⟨dp,2,0,false,true⟩,⟨sz,2,0,false,true⟩,⟨dn,2,0,false,true⟩],_,[],_⟩ (by kernel_rfl) (bc (beq_f (fun h => d2 (i_dec.1 h))) b0) q0 c0 (by (try rw [w9]);all_goals exact H)
theorem tvXra (sm st dp sz dn:List AV) (g:Bool) (l:List Bk) (q:List Bk) (v:Nat) (bf:Bool) (Y:List Bk) (t k n i:Int)  (Q:AV -> Heap -> Prop) (H :
  ((k < t) -> ((q.length + Y.length) * 48 <= 1099511627776) /\
   (-9223372036854775808 <= k + 1 /\ k + 1 <= 9223372036854775807) /\
   tvXra_at (sm) (st) (dp) (sz) (dn) (g) (l) (q ++ Y) (v + 1) (bf) (Y) (t) (k + 1) (n) (i) Q) /\
  (¬(k < t) -> (-9223372036854775808 <= i + 1 /\ i + 1 <= 9223372036854775807) /\
   tvXaa_at (sm) (st) (dp) (sz) (dn) (g) (l) (q) (v) (n) (i + 1) Q)) :
 tvXra_at sm st dp sz dn g l q v bf Y t k n i Q:=by
 unfold tvXra_at
 rcases xm (k < t) with d2 | d2
 ·have H:=H.1 d2
  have w3:(List.map Bk.a q).length = q.length:=List.length_map ..
  have w4:(List.map Bk.a Y).length = Y.length:=List.length_map ..
  have i5:(decide (((List.map Bk.a q).length + (List.map Bk.a Y).length) * 48 <= 1099511627776)) = true ↔ ((q.length + Y.length) * 48 <= 1099511627776):=(by (try rw [w3]);(try rw [w4]);all_goals exact i_dec)
  obtain ⟨k6,H⟩:=H
  have w7:List.map Bk.a q ++ List.map Bk.a Y = List.map Bk.a (q ++ Y):=(lm_app rfl rfl)
  obtain ⟨k8,H⟩:=H
  have w9:wi (k + 1) = k + 1:=wI64 k8
  exact path_wp (G:=given kp46 [] []) 1000 [true] ⟨(atC (cd Try.f46) [1,1,0,1,0,0,1,1,0,0,1,1,1,1,1,1,1,0,0]),[(0,AV.ptr 0 0 0 0),(5,AV.row 6 (v + 1)),(12,AV.vec bf 3 (List.map Bk.a Y)),(14,AV.vec g 3 (List.map Bk.a l)),(15,vi n),(16,vi i),(61,vi t),(62,vi (wi (k + 1)))],[⟨[ag [AV.mapr 1,AV.mapr 2,AV.mapr 3,AV.mapr 4,AV.mapr 5]],5,0,false,false⟩,⟨sm,2,0,false,true⟩,⟨st,2,0,false,true⟩,⟨dp,2,0,false,true⟩,⟨sz,2,0,false,true⟩,⟨dn,2,0,false,true⟩,⟨List.map Bk.a q ++ List.map Bk.a Y,3,v + 1,false,true⟩],[(decide (k < t)) == true,v == v,decide (((List.map Bk.a q).length + (List.map Bk.a Y).length) * 48 <= 1099511627776)],[],_⟩ (by kernel_rfl) (bc (beq_t (i_dec.2 d2)) (bc (beq_self_eq_true _) (bc (i5.2 k6) b0))) q0 c0 (by (try rw [w7]);(try rw [w9]);all_goals exact H)
 ·have H:=H.2 d2
  obtain ⟨k10,H⟩:=H
  have w11:wi (i + 1) = i + 1:=wI64 k10
  exact path_wp (G:=given kp46 [] []) 1000 [false] ⟨(atC (cd Try.f46) [1,1,0,1,0,0]),[(0,AV.ptr 0 0 0 0),(5,AV.row 6 v),(14,AV.vec g 3 (List.map Bk.a l)),(15,vi n),(16,vi (wi (i + 1)))],[⟨[ag [AV.mapr 1,AV.mapr 2,AV.mapr 3,AV.mapr 4,AV.mapr 5]],5,0,false,false⟩,⟨sm,2,0,false,true⟩,⟨st,2,0,false,true⟩,⟨dp,2,0,false,true⟩,⟨sz,2,0,false,true⟩,⟨dn,2,0,false,true⟩,⟨List.map Bk.a q,3,v,false,true⟩],_,[],_⟩ (by kernel_rfl) (bc (beq_f (fun h => d2 (i_dec.1 h))) b0) q0 c0 (by (try rw [w11]);all_goals exact H)
end Go.Av

namespace Go.Av
open Go.RowKit
theorem wp_narrowZ {M:Mach} {fi:Fi} {k:List Item} {env env':Vars} {L Lc:Heap} {d:AV} {K:Heap} (n:Nat) (rs:List Nat) (hk:frzOk n K = true) (hrs:rs.take n = List.range n) (hn:narrowIn L rs env = some (env',Lc)) (h:Wp M (.run fi k env' Lc) (FrzQ d K)):Wp M (.run fi k env L) (FrzQ d K):=by
 unfold frzOk at hk
 simp only [Bool.and_eq_true,List.all_eq_true,Nat.blt_eq,Nat.beq_eq] at hk
 obtain ⟨k1,k2⟩:=hk
 refine .narrow rs env' Lc hn (.mono h fun v L1 ⟨q1,q2,q3,q4⟩ => ?_)
 unfold narrowIn at hn
 split at hn
 ·rename_i rows0 hrows
  split at hn
  ·rename_i hc
   simp only [Bool.and_eq_true] at hc
   have hnd:=(noDup_iff rs).1 hc.1
   obtain ⟨g1,g2⟩:=getRows_spec hrows
   have hlen:n <= rs.length:=by
    have:=congrArg List.length hrs
    rw [List.length_take,List.length_range] at this;omega
   have hat:∀ i,i < n -> rs[i]? = some i:=fun i hi => by
    have this:(rs.take n)[i]? = (List.range n)[i]?:=by rw [hrs]
    rw [List.getElem?_take_of_lt hi,List.getElem?_range hi] at this
    exact this
   have hlt:∀ (j:Nat) r,rs[j]? = some r -> r < L.length:=fun j r hj => by
    obtain ⟨row,w1,_⟩:=g2 j r hj
    exact (List.getElem?_eq_some_iff.1 w1).1
   have hle:n <= L.length:=by
    by_cases h0:n = 0
    ·omega
    ·have:=hlt (n - 1) _ (hat (n - 1) (by omega));omega
   have hb:∀ r,r < n -> backAt L.length rs r = r:=fun r hr => by
    unfold backAt
    rw [Nat.blt_eq.mpr (show r < rs.length by omega),cond_true,List.getD_eq_getElem?_getD,hat r hr];rfl
   have hbg:∀ r,n <= r -> n <= backAt L.length rs r:=fun r hr => by
    unfold backAt
    by_cases hlt2:r < rs.length
    ·rw [Nat.blt_eq.mpr hlt2,cond_true]
     have hg:rs[r]? = some (rs.getD r 0):=by rw [List.getD_eq_getElem?_getD,List.getElem?_eq_getElem hlt2];rfl
     refine Classical.byContradiction fun y => ?_
     have e1:=posOf_at hnd hg
     have e2:=posOf_at hnd (hat (rs.getD r 0) (by omega))
     omega
    ·have:Nat.blt r rs.length = false:=by
      cases hb:Nat.blt r rs.length with
      | false => rfl
      | true => exact (hlt2 (Nat.blt_eq.mp hb)).elim
     rw [this,cond_false];omega
   obtain ⟨p1,p2⟩:=pureA_ren (back_at (L1:=L1) hrows hnd) v q1
   refine ⟨p1,by rw [p2];exact q2,fun r hr => ?_,?_⟩
   ·rw [rowsA_ren] at hr
    obtain ⟨a,ha,rfl⟩:=List.mem_map.1 hr
    have:=q3 a ha
    rw [k1] at this ⊢
    exact hbg a this
   ·rw [k1] at q4 ⊢
    have hlL1:n <= L1.length:=by
     have:=congrArg List.length q4
     rw [List.length_take,k1] at this;omega
    apply List.ext_getElem?
    intro i
    by_cases hi:i < n
    ·rw [List.getElem?_take_of_lt hi]
     have e1:L1[i]? = K[i]?:=by rw [<- q4,List.getElem?_take_of_lt hi]
     have hKi:i < K.length:=by omega
     rw [List.getElem?_eq_getElem hKi] at e1 ⊢
     have:=back_at (L1:=L1) hrows hnd i _ e1
     rw [hb i hi] at this
     rw [this,renRow_same fun r hr => hb r (k2 _ (List.getElem_mem hKi) r hr)]
    ·rw [List.getElem?_eq_none (by rw [List.length_take];omega),List.getElem?_eq_none (by omega)]
  ·simp at hn
 ·simp at hn
end Go.Av

namespace Go.Av
open Go.Proofs
def DInv (E:Int -> List Bk) (dn:List AV):Prop:=mapKeys .i64 dn = true /\ ∀ n,(mapHas n dn = false -> mapVal (ofC (Value.slice none 0 0)) n dn = .vnil) /\ (mapHas n dn = true -> ∃ bf,mapVal (ofC (Value.slice none 0 0)) n dn = .vec bf 3 ((E n).map Bk.a))
theorem dinv0 (E:Int -> List Bk):DInv E []:=⟨rfl,fun n => ⟨fun _ => rfl,fun h => by cases h⟩⟩
theorem dinv_put {E:Int -> List Bk} {dn:List AV} (h:DInv E dn) (m:Int) (bf:Bool):DInv E (mapPut .i64 m (.vec bf 3 ((E m).map Bk.a)) dn):=by
 obtain ⟨h1,h2⟩:=h
 obtain ⟨a1,a2,a3⟩:=valM_put (n:=m) (v:=.vec bf 3 ((E m).map Bk.a)) h1
 refine ⟨a1,fun n => ⟨fun k => ?_,fun k => ?_⟩⟩
 ·rw [a2,Bool.or_eq_false_iff,decide_eq_false_iff_not] at k
  rw [a3,if_neg k.1];exact (h2 n).1 k.2
 ·rw [a3]
  by_cases e:n = m
  ·rw [if_pos e,e];exact ⟨bf,rfl⟩
  ·rw [if_neg e]
   rw [a2,decide_eq_false e,Bool.false_or] at k
   exact (h2 n).2 k
def ExpE (E:Int -> List Bk) (sm st dp sz:List AV) (bs:Bool) (l:List Bk) (r:List Bk):Prop:=∀ dn,DInv E dn -> ∃ bf dn1,Ev M1 (.own 46 [.ptr 0 0 0 0,.vec bs 3 (l.map Bk.a)] (XH sm st dp sz dn)) (.vec bf 3 (r.map Bk.a)) (XH sm st dp sz dn1) /\ DInv E dn1
theorem expand_in {sm st dp sz dn:List AV} {g bf:Bool} {l Y:List Bk} {n i:Int} {Q:AV -> Heap -> Prop} (hi:-9223372036854775808 <= i + 1 /\ i + 1 <= 9223372036854775807) {t:Nat} (ht:t <= 1000000):∀ (c k:Nat) (q:List Bk) (v:Nat),k + c = t -> q.length + c * Y.length <= 1000000 -> (∀ v,tvXaa_at sm st dp sz dn g l (q ++ Sp.rep c Y) v n (i + 1) Q) -> tvXra_at sm st dp sz dn g l q v bf Y t k n i Q:=by
 intro c
 induction c with
 | zero =>
  intro k q v hk _ h
  rw [rep_zero,List.append_nil] at h
  exact tvXra _ _ _ _ _ _ _ _ _ _ _ _ _ _ _ _ ⟨fun y => by omega,fun _ => ⟨hi,h v⟩⟩
 | succ c ih =>
  intro k q v hk hl h
  rw [rep_succ,<- List.append_assoc] at h
  rw [Nat.succ_mul] at hl
  refine tvXra _ _ _ _ _ _ _ _ _ _ _ _ _ _ _ _ ⟨fun _ => ⟨by omega,by omega,ih (k + 1) (q ++ Y) (v + 1) (by omega) (by rw [List.length_append];omega) h⟩,fun y => by omega⟩
theorem expand_loop {E:Int -> List Bk} {sm st dp sz:List AV} {g:Bool} {l:List Bk} {P:Int -> Prop} (hsm:mapKeys .i64 sm = true) (hl:Sp.okBs l) (hlen:(Sp.xpd E l).length <= 1000000) (hP:∀ x ∈ l,Sp.cIs x.ws = true -> P (Sp.cN x.ws))
  (hrec:∀ m,P m -> (E m).length <= 1000000 -> ∃ bs S,mapVal (ofC (Value.slice none 0 0)) m sm = .vec bs 3 (S.map Bk.a) /\ ExpE E sm st dp sz bs S (E m)) :
  ∀ (c i:Nat) (q:List Bk) (dn:List AV),i + c = l.length -> q ++ Sp.xpd E (l.drop i) = Sp.xpd E l -> DInv E dn ->
  ∃ bf dn1,DInv E dn1 /\ (q = [] -> tvXaz_at sm st dp sz dn g l l.length i (FrzQ (.vec bf 3 ((Sp.xpd E l).map Bk.a)) (XH sm st dp sz dn1))) /\ (q ≠ [] -> ∀ v,tvXaa_at sm st dp sz dn g l q v l.length i (FrzQ (.vec bf 3 ((Sp.xpd E l).map Bk.a)) (XH sm st dp sz dn1))):=by
 have hll:=hl.1
 intro c
 induction c with
 | zero =>
  intro i q dn hi he hD
  rw [List.drop_eq_nil_of_le (by omega),show Sp.xpd E [] = [] from rfl,List.append_nil] at he
  subst he
  cases hx:Sp.xpd E l with
  | nil =>
   refine ⟨true,dn,hD,fun _ => ?_,fun h => (h rfl).elim⟩
   refine wp_vnil (es:=3) hm1 (tvXaz _ _ _ _ _ _ _ _ _ _ ⟨fun h => by omega,fun _ => .inr ⟨rfl,rfl,fun b hb => (by cases hb),fun r hr => (by cases hr),rfl⟩⟩:tvXaz_at sm st dp sz dn g l l.length i _)
  | cons y Y =>
   refine ⟨false,dn,hD,fun h => (by cases h),fun _ v => ?_⟩
   refine tvXaa _ _ _ _ _ _ _ _ _ _ _ _ ⟨fun h => by omega,fun _ => ⟨rfl,fun b hb => ?_,fun r hr => ?_,rfl⟩⟩
   ·rw [List.mem_singleton.1 hb];simp [verOk]
   ·rw [List.mem_singleton.1 hr];exact Nat.le_refl 6
 | succ c ih =>
  intro i q dn hi he hD
  have hx:l.getD i default ∈ l:=getD_mem (by omega)
  have hw:=hl.2 _ hx
  rw [drop_getD (show i < l.length by omega),xpd_cons,<- List.append_assoc] at he
  have htot:=congrArg List.length he
  rw [List.length_append,List.length_append] at htot
  by_cases k:Sp.cIs (l.getD i default).ws = true
  ·rw [if_pos k] at he htot
   have hct:=(cIs_at k).1
   have hpm:=hP _ hx k
   have ht1:1 <= (Sp.cT (l.getD i default).ws).toNat:=by omega
   rw [rep_len] at htot
   have hE:(E (Sp.cN (l.getD i default).ws)).length <= (Sp.cT (l.getD i default).ws).toNat * (E (Sp.cN (l.getD i default).ws)).length:=Nat.le_mul_of_pos_left _ (by omega)
   obtain ⟨bs,S,hv,hrc⟩:=hrec _ hpm (by omega)
   have htc:((Sp.cT (l.getD i default).ws).toNat:Int) = Sp.cT (l.getD i default).ws:=Int.toNat_of_nonneg (by omega)
   have body:∀ dnB bf,DInv E dnB -> ∃ rf dn1,DInv E dn1 /\
     (((E (Sp.cN (l.getD i default).ws)).length:Int) = 0 -> (q = [] -> tvXaz_at sm st dp sz dnB g l l.length (i + 1) (FrzQ (.vec rf 3 ((Sp.xpd E l).map Bk.a)) (XH sm st dp sz dn1))) /\ (q ≠ [] -> ∀ v,tvXaa_at sm st dp sz dnB g l q v l.length (i + 1) (FrzQ (.vec rf 3 ((Sp.xpd E l).map Bk.a)) (XH sm st dp sz dn1)))) /\
     (¬((E (Sp.cN (l.getD i default).ws)).length:Int) = 0 -> (q = [] -> tvXra_at sm st dp sz dnB g l [] 0 bf (E (Sp.cN (l.getD i default).ws)) (Sp.cT (l.getD i default).ws) 0 l.length i (FrzQ (.vec rf 3 ((Sp.xpd E l).map Bk.a)) (XH sm st dp sz dn1)) /\ ∃ y Y,E (Sp.cN (l.getD i default).ws) = y :: Y /\ tvXrz_at sm st dp sz dnB g l bf y Y (Sp.cT (l.getD i default).ws) 0 l.length i (FrzQ (.vec rf 3 ((Sp.xpd E l).map Bk.a)) (XH sm st dp sz dn1))) /\ (q ≠ [] -> ∀ v,tvXra_at sm st dp sz dnB g l q v bf (E (Sp.cN (l.getD i default).ws)) (Sp.cT (l.getD i default).ws) 0 l.length i (FrzQ (.vec rf 3 ((Sp.xpd E l).map Bk.a)) (XH sm st dp sz dn1)))):=by
    intro dnB bf hB
    obtain ⟨rf,dn1,d1,d2,d3⟩:=ih (i + 1) (q ++ Sp.rep (Sp.cT (l.getD i default).ws).toNat (E (Sp.cN (l.getD i default).ws))) dnB (by omega) he hB
    refine ⟨rf,dn1,d1,fun h0 => ?_,fun h0 => ?_⟩
    ·have e0:E (Sp.cN (l.getD i default).ws) = []:=List.eq_nil_of_length_eq_zero (by omega)
     rw [e0,rep_nil,List.append_nil] at d2 d3
     exact ⟨d2,d3⟩
    ·have hne:q ++ Sp.rep (Sp.cT (l.getD i default).ws).toNat (E (Sp.cN (l.getD i default).ws)) ≠ []:=fun e => by
      have:=congrArg List.length e
      rw [List.length_append,rep_len,List.length_nil] at this
      omega
     have d3:=d3 hne
     rw [<- htc]
     refine ⟨fun hq => ?_,fun hq v => ?_⟩
     ·subst hq
      refine ⟨?_,?_⟩
      ·exact expand_in (t:=(Sp.cT (l.getD i default).ws).toNat) (by omega) (by omega) _ 0 [] 0 (by omega) (by rw [List.length_nil];omega) d3
      ·cases hEc:E (Sp.cN (l.getD i default).ws) with
       | nil => rw [hEc] at h0;exact (h0 rfl).elim
       | cons y Y =>
        rw [hEc] at d3 htot
        refine ⟨y,Y,rfl,tvXrz _ _ _ _ _ _ _ _ _ _ _ _ _ _ _ ⟨fun _ => ⟨?_,by omega,?_⟩,fun z => by omega⟩⟩
        ·simp only [List.length_cons] at hE htot;rw [hEc] at hE;simp only [List.length_cons] at hE;omega
        ·obtain ⟨t,ht⟩:∃ t,(Sp.cT (l.getD i default).ws).toNat = t + 1:=⟨(Sp.cT (l.getD i default).ws).toNat - 1,by omega⟩
         rw [ht] at d3 htot
         rw [rep_succ,List.nil_append] at d3
         rw [ht]
         rw [Nat.succ_mul] at htot
         exact expand_in (Y:=y :: Y) (bf:=bf) (t:=t + 1) (by omega) (by omega) t 1 (y :: Y) 0 (by omega) (by omega) d3
     ·exact expand_in (t:=(Sp.cT (l.getD i default).ws).toNat) (by omega) (by omega) _ 0 q v (by omega) (by omega) d3
   have top:∀ {Q:AV × List AV},(q = [] -> tvXkz_at sm st dp sz dn g l (Sp.cN (l.getD i default).ws) (Sp.cT (l.getD i default).ws) l.length i (FrzQ Q.1 (XH sm st dp sz Q.2))) -> (q ≠ [] -> ∀ v,tvXka_at sm st dp sz dn g l q v (Sp.cN (l.getD i default).ws) (Sp.cT (l.getD i default).ws) l.length i (FrzQ Q.1 (XH sm st dp sz Q.2))) ->
     (q = [] -> tvXaz_at sm st dp sz dn g l l.length i (FrzQ Q.1 (XH sm st dp sz Q.2))) /\ (q ≠ [] -> ∀ v,tvXaa_at sm st dp sz dn g l q v l.length i (FrzQ Q.1 (XH sm st dp sz Q.2))):=fun {Q:AV × List AV} hz ha => by
    refine ⟨fun hq => ?_,fun hq v => ?_⟩
    ·refine tvXaz _ _ _ _ _ _ _ _ _ _ ⟨fun _ => ?_,fun h => by omega⟩
     rw [Int.toNat_natCast]
     exact ⟨by omega,by omega,hw,fun y => (y k).elim,fun _ => wp_narrowZ 6 [0,1,2,3,4,5] (by kernel_rfl) rfl (by kernel_rfl) (hz hq)⟩
    ·refine tvXaa _ _ _ _ _ _ _ _ _ _ _ _ ⟨fun _ => ?_,fun h => by omega⟩
     rw [Int.toNat_natCast]
     exact ⟨by omega,by omega,hw,fun y => (y k).elim,fun _ => wp_narrowZ 6 [0,1,2,3,4,5,6] (by kernel_rfl) rfl (by kernel_rfl) (ha hq v)⟩
   cases hh:mapHas (Sp.cN (l.getD i default).ws) dn with
   | true =>
    obtain ⟨bf,hbf⟩:=(hD.2 _).2 hh
    obtain ⟨rf,dn1,d1,d2,d3⟩:=body dn bf hD
    obtain ⟨t1,t2⟩:=top (Q:=(_,dn1)) (fun hq => tvXkz _ _ _ _ _ _ _ _ _ _ _ bf (E (Sp.cN (l.getD i default).ws)) _ ⟨hD.1,hbf,fun y => (y hh).elim,fun _ => ⟨fun z => ⟨by omega,(d2 z).1 hq⟩,fun z => by
      obtain ⟨_,y,Y,e1,e2⟩:=(d3 z).1 hq
      rw [e1];exact e2⟩⟩) (fun hq v => tvXka _ _ _ _ _ _ _ _ _ _ _ _ _ bf (E (Sp.cN (l.getD i default).ws)) _ ⟨hD.1,hbf,fun y => (y hh).elim,fun _ => ⟨fun z => ⟨by omega,(d2 z).2 hq v⟩,fun z => (d3 z).2 hq v⟩⟩)
    exact ⟨rf,dn1,d1,t1,t2⟩
   | false =>
    obtain ⟨bf,dnA,a1,a2⟩:=hrc dn hD
    have hB:=dinv_put a2 (Sp.cN (l.getD i default).ws) bf
    obtain ⟨rf,dn1,d1,d2,d3⟩:=body _ bf hB
    have hnv:=(hD.2 _).1 hh
    obtain ⟨t1,t2⟩:=top (Q:=(_,dn1)) (fun hq => (tvXuz _ _ _ _ _ _ _ _ _ _ _ bs S bf (E (Sp.cN (l.getD i default).ws)) dnA _ ⟨hD.1,hnv,fun _ => ⟨a1,hsm,hv,a2.1,fun z => ⟨by omega,(d2 z).1 hq⟩,fun z => by
      obtain ⟨_,y,Y,e1,e2⟩:=(d3 z).1 hq
      rw [e1] at e2 ⊢;exact e2⟩,fun y => (y (by rw [hh];simp)).elim⟩:tvXuz_at _ _ _ _ _ _ _ _ _ _ _ _)) (fun hq v => (tvXua _ _ _ _ _ _ _ _ _ _ _ _ _ bs S bf (E (Sp.cN (l.getD i default).ws)) dnA _ ⟨hD.1,hnv,fun _ => ⟨a1,hsm,hv,a2.1,fun z => ⟨by omega,(d2 z).2 hq v⟩,fun z => (d3 z).2 hq v⟩,fun y => (y (by rw [hh];simp)).elim⟩:tvXua_at _ _ _ _ _ _ _ _ _ _ _ _ _ _))
    exact ⟨rf,dn1,d1,t1,t2⟩
  ·rw [if_neg k] at he htot
   obtain ⟨rf,dn1,d1,_,d3⟩:=ih (i + 1) (q ++ [l.getD i default]) dn (by omega) he hD
   have d3:=d3 (by simp)
   refine ⟨rf,dn1,d1,fun hq => ?_,fun hq v => ?_⟩
   ·subst hq
    refine tvXaz _ _ _ _ _ _ _ _ _ _ ⟨fun _ => ?_,fun h => by omega⟩
    rw [Int.toNat_natCast]
    exact ⟨by omega,by omega,hw,fun _ => ⟨by omega,wp_narrowZ 6 [0,1,2,3,4,5,7] (by kernel_rfl) rfl (by kernel_rfl) (d3 0)⟩,fun y => (y k).elim⟩
   ·refine tvXaa _ _ _ _ _ _ _ _ _ _ _ _ ⟨fun _ => ?_,fun h => by omega⟩
    rw [Int.toNat_natCast]
    exact ⟨by omega,by omega,hw,fun _ => ⟨by omega,by omega,wp_narrowZ 6 [0,1,2,3,4,5,6] (by kernel_rfl) rfl (by kernel_rfl) (d3 (v + 1))⟩,fun y => (y k).elim⟩
end Go.Av

namespace Go.Av
open Go.Proofs
theorem expand_ev {S:Int -> List Bk} {ns:List Int} {sm st dp sz:List AV} {N:Nat} (hs:MSub S ns sm):∀ (k:Nat) (g:Bool) (l:List Bk),k <= N -> Sp.okBs l -> (∀ x ∈ l,Sp.cIs x.ws = true -> Sp.cN x.ws ∈ ns /\ (Sp.V S k (Sp.cN x.ws)).isSome = true) -> (Sp.xpd (Sp.X S N) l).length <= 1000000 ->
  ExpE (Sp.X S N) sm st dp sz g l (Sp.xpd (Sp.X S N) l):=by
 intro k
 induction k with
 | zero =>
  intro g l hk hl hc hlen dn hD
  obtain ⟨bf,dn1,d1,d2,_⟩:=expand_loop (st:=st) (dp:=dp) (sz:=sz) (g:=g) (P:=fun _ => False) hs.1 hl hlen (fun x hx y => by have:=(hc x hx y).2;simp [Sp.V] at this) (fun m hm => hm.elim) l.length 0 [] dn (by omega) (by rw [List.drop_zero];rfl) hD
  refine ⟨bf,dn1,own_freeze hm1 rfl rfl (owncall46 (tvXp _ _ _ _ _ _ _ _ (d2 rfl))),d1⟩
 | succ k ih =>
  intro g l hk hl hc hlen dn hD
  obtain ⟨bf,dn1,d1,d2,_⟩:=expand_loop (st:=st) (dp:=dp) (sz:=sz) (g:=g) (P:=fun m => m ∈ ns /\ (Sp.V S (k + 1) m).isSome = true) hs.1 hl hlen hc (fun m hm hml => by
   obtain ⟨hb,bs,hv⟩:=hs.2.2.2 m hm.1
   have e:Sp.X S N m = Sp.xpd (Sp.X S N) (S m):=(X_mono1 N m (V_some hm.2 hk)).symm
   refine ⟨bs,S m,hv,?_⟩
   have:=ih bs (S m) (by omega) hb (fun x hx y => ⟨hs.2.2.1 m hm.1 x hx y,V_succ.1 hm.2 x hx y⟩) (by rw [<- e];exact hml)
   rw [e];exact this) l.length 0 [] dn (by omega) (by rw [List.drop_zero];rfl) hD
  refine ⟨bf,dn1,own_freeze hm1 rfl rfl (owncall46 (tvXp _ _ _ _ _ _ _ _ (d2 rfl))),d1⟩
end Go.Av

namespace Go.Av
open Go.Proofs
set_option maxRecDepth 100000
def fi47:Fi:=⟨8,[.tmp 2]⟩
def kp47:List (Nat × List Nat):=[(0,[0]),(1,[0,4]),(2,[2]),(3,[2])]
def tvWe_at (g:Bool) (Q:AV -> Heap -> Prop):Prop:=Wp M1 (.run fi47 (atC (cd Try.f47) []) [(0,.vec g 2 [])] []) Q
def tvWc_at (g:Bool) (y:Wo) (l:List Wo) (Q:AV -> Heap -> Prop):Prop:=Wp M1 (.run fi47 (atC (cd Try.f47) []) [(0,.vec g 2 ((y :: l).map Wo.a))] []) Q
theorem call47 {args:List AV} {d:AV} (h:wc M1 fi47 Try.f47 args d):Ev M1 (.pure 47 args) d []:=pcl _ _ (by kernel_rfl) h
theorem tvWe (g:Bool)  (dq:AV) (H :
  (Weak (AV.vnil) dq) /\
  (Weak (AV.vec true 2 []) dq)) :
 tvWe_at g (PureQ dq):=by
 unfold tvWe_at
 refine path_wp (G:=given kp47 [] []) 4 [] ⟨(atC (cd Try.f47) [1,0,0]),[(0,AV.vec g 2 [])],[],_,[],_⟩ (by kernel_rfl) b0 q0 c0 (wp_nil 1 [0,4] (e1:=[(0,AV.vec g 2 []),(4,vb true)]) (e2:=[(0,AV.vec g 2 []),(4,vb false)]) (L1:=[]) (L2:=[]) (a1:=[]) (a2:=[]) (v1:=[(4,[],vb true),(3,[],AV.vec g 2 []),(0,[],AV.vec g 2 [])]) (v2:=[(4,[],vb false),(3,[],AV.vec g 2 []),(0,[],AV.vec g 2 [])]) (by kernel_rfl) (by kernel_rfl) allB_nil allB_nil (by kernel_rfl) (by kernel_rfl) ?_ ?_)
 ·have H:=H.1
  exact path_rq (G:=given kp47 [] []) 1000 [true] (AV.vnil) (by kernel_rfl) (bc rfl b0) q0 c0 H
 ·have H:=H.2
  exact path_rq (G:=given kp47 [] []) 1000 [false] (AV.vec true 2 []) (by kernel_rfl) (bc rfl b0) q0 c0 H
theorem tvWc (g:Bool) (y:Wo) (l:List Wo)  (dq:AV) (H :
  ((0 + (l.length + 1)) * 16 <= 1099511627776) /\
  Weak (AV.vec false 2 (ag [AV.int IntKind.u8 y.l,vi y.v] :: List.map Wo.a l)) dq) :
 tvWc_at g y l (PureQ dq):=by
 unfold tvWc_at
 have w1:(List.map Wo.a l).length = l.length:=List.length_map ..
 have i2:(decide ((0 + ((List.map Wo.a l).length + 1)) * 16 <= 1099511627776)) = true ↔ ((0 + (l.length + 1)) * 16 <= 1099511627776):=(by (try rw [w1]);all_goals exact i_dec)
 obtain ⟨k3,H⟩:=H
 exact path_ret (G:=given kp47 [] []) 1000 [false] (k:=((atC (cd Try.f47) [1,1,1])).tail) (env':=[(2,AV.row 0 0)]) (L':=[⟨ag [AV.int IntKind.u8 y.l,vi y.v] :: List.map Wo.a l,2,0,false,true⟩]) (asm:=[false == false,decide ((0 + ((List.map Wo.a l).length + 1)) * 16 <= 1099511627776)]) (eqs:=[]) (calls:=[]) (AV.row 0 0) (by kernel_rfl) (by kernel_rfl) (allB_cons rfl (allB_cons (i2.2 k3) allB_nil)) allP_nil allC_nil (pq_weak (d:=(AV.vec false 2 (ag [AV.int IntKind.u8 y.l,vi y.v] :: List.map Wo.a l))) (bs:=[0 == 0]) (by kernel_rfl) (by kernel_rfl) (allB_cons (beq_self_eq_true _) allB_nil) (by kernel_rfl) H)
end Go.Av

namespace Go.Av
open Go.Proofs
theorem ev47 (g:Bool) (l:List Wo) (h:Sp.okW l):Ev M1 (.pure 47 [.vec g 2 (l.map Wo.a)]) (.vec false 2 (l.map Wo.a)) []:=by
 have hl:=h.1
 cases l with
 | nil => exact call47 (tvWe g _ ⟨.vnil 2,.full 2 []⟩)
 | cons y l => exact call47 (tvWc g y l _ ⟨by simp at hl;omega,.refl _⟩)
end Go.Av

namespace Go.Av
open Go.Proofs
set_option maxRecDepth 100000
def fi16:Fi:=⟨38,[.tmp 2,.tmp 3]⟩
def kp16:List (Nat × List Nat):=[(0,[1]),(1,[1,4,6]),(2,[1,4,6,17]),(3,[2,3]),(4,[1,4,7]),(5,[7,22,23,24]),(6,[7,22,23,24,25]),(7,[7,9,22,23,24]),(8,[7,9,22,23,24]),(9,[7,22,23,24]),(10,[7,22,23,24]),(11,[2,3])]
def tvEpT_at (g:Bool) (l:List Bk) (h:Bool) (s:List Sb) (Q:AV -> Heap -> Prop):Prop:=Wp M1 (.run fi16 (atC (cd Try.f16) []) [(0,.agg [.vec g 3 (l.map Bk.a),.vec h 2 (s.map Sb.a)])] []) Q
def tvEpE_at (g:Bool) (l:List Bk) (h:Bool) (s:List Sb) (Q:AV -> Heap -> Prop):Prop:=Wp M1 (.run fi16 (atC (cd Try.f16) []) [(0,.agg [.vec g 3 (l.map Bk.a),.vec h 2 (s.map Sb.a)])] []) Q
def tvEpz_at (bf:Bool) (Y:List Bk) (n i:Int) (Q:AV -> Heap -> Prop):Prop:=Wp M1 (.run fi16 (atC (cd Try.f16) [1,1,1,1,0,1,0,0]) [(7,.vnil),(22,.vec bf 3 (Y.map Bk.a)),(23,.int .i64 n),(24,.int .i64 i)] []) Q
def tvEpa_at (bf:Bool) (Y:List Bk) (n i:Int) (q:List Bk) (v:Nat) (Q:AV -> Heap -> Prop):Prop:=Wp M1 (.run fi16 (atC (cd Try.f16) [1,1,1,1,0,1,0,0]) [(7,.row 0 v),(22,.vec bf 3 (Y.map Bk.a)),(23,.int .i64 n),(24,.int .i64 i)] [⟨q.map Bk.a,3,v,false,true⟩]) Q
theorem call16 {args:List AV} {d:AV} (h:wc M1 fi16 Try.f16 args d):Ev M1 (.pure 16 args) d []:=pcl _ _ (by kernel_rfl) h
noncomputable abbrev zTpO1:=ag [AV.mapr 1,AV.mapr 2,AV.mapr 3,AV.mapr 4,AV.mapr 5]
theorem tvEpT (g:Bool) (l:List Bk) (h:Bool) (s:List Sb) (sm st dp sz:List AV) (z:Int) (bf:Bool) (Y:List Bk) (dn1:List AV) (dq:AV) (H :
  (Ev M1 (Conf.own 45 [ag [AV.vec g 3 (List.map Bk.a l),AV.vec h 2 (List.map Sb.a s)]] []) (tu [AV.ptr 0 0 0 0,vi z,vi 0]) [{ elems:=[ag [AV.mapr 1,AV.mapr 2,AV.mapr 3,AV.mapr 4,AV.mapr 5]],es:=5,ver:=0,frozen:=false,clean:=false },{ elems:=sm,es:=2,ver:=0,frozen:=false,clean:=true },{ elems:=st,es:=2,ver:=0,frozen:=false,clean:=true },{ elems:=dp,es:=2,ver:=0,frozen:=false,clean:=true },{ elems:=sz,es:=2,ver:=0,frozen:=false,clean:=true },{ elems:=[],es:=2,ver:=0,frozen:=false,clean:=true }]) /\
  (Ev M1 (Conf.own 46 [AV.ptr 0 0 0 0,AV.vec g 3 (List.map Bk.a l)] [{ elems:=[ag [AV.mapr 1,AV.mapr 2,AV.mapr 3,AV.mapr 4,AV.mapr 5]],es:=5,ver:=0,frozen:=false,clean:=false },{ elems:=sm,es:=2,ver:=0,frozen:=false,clean:=true },{ elems:=st,es:=2,ver:=0,frozen:=false,clean:=true },{ elems:=dp,es:=2,ver:=0,frozen:=false,clean:=true },{ elems:=sz,es:=2,ver:=0,frozen:=false,clean:=true },{ elems:=[],es:=2,ver:=0,frozen:=false,clean:=true }]) (AV.vec bf 3 (List.map Bk.a Y)) [{ elems:=[ag [AV.mapr 1,AV.mapr 2,AV.mapr 3,AV.mapr 4,AV.mapr 5]],es:=5,ver:=0,frozen:=false,clean:=false },{ elems:=sm,es:=2,ver:=0,frozen:=false,clean:=true },{ elems:=st,es:=2,ver:=0,frozen:=false,clean:=true },{ elems:=dp,es:=2,ver:=0,frozen:=false,clean:=true },{ elems:=sz,es:=2,ver:=0,frozen:=false,clean:=true },{ elems:=dn1,es:=2,ver:=0,frozen:=false,clean:=true }]) /\
  tvEpz_at (bf) (Y) ((↑Y.length:Int)) (0) (PureQ dq)) :
 tvEpT_at g l h s (PureQ dq):=by
 unfold tvEpT_at
 obtain ⟨k1,H⟩:=H
 obtain ⟨k2,H⟩:=H
 have w3:(List.map Bk.a Y).length = Y.length:=List.length_map ..
 exact path_wp (G:=given kp16 [(1,1,(.call (.tup [.ptr 0 0 0 0,.int .i64 z,.int .i64 0]) (some [⟨[.agg [.mapr 1,.mapr 2,.mapr 3,.mapr 4,.mapr 5]],5,0,false,false⟩,⟨sm,2,0,false,true⟩,⟨st,2,0,false,true⟩,⟨dp,2,0,false,true⟩,⟨sz,2,0,false,true⟩,⟨[],2,0,false,true⟩]):Ans)),(5,3,(.call (.vec bf 3 (Y.map Bk.a)) (some [⟨[.agg [.mapr 1,.mapr 2,.mapr 3,.mapr 4,.mapr 5]],5,0,false,false⟩,⟨sm,2,0,false,true⟩,⟨st,2,0,false,true⟩,⟨dp,2,0,false,true⟩,⟨sz,2,0,false,true⟩,⟨dn1,2,0,false,true⟩]):Ans))] []) 1000 [false] ⟨(atC (cd Try.f16) [1,1,1,1,0,1,0,0]),[(7,AV.vnil),(22,AV.vec bf 3 (List.map Bk.a Y)),(23,vi (↑(List.map Bk.a Y).length:Int)),(24,vi 0)],[⟨[ag [AV.vec g 3 (List.map Bk.a l),AV.vec h 2 (List.map Sb.a s)]],2,0,false,false⟩,⟨[ag [AV.mapr 2,AV.mapr 3,AV.mapr 4,AV.mapr 5,AV.mapr 6]],5,0,false,false⟩,⟨sm,2,0,false,true⟩,⟨st,2,0,false,true⟩,⟨dp,2,0,false,true⟩,⟨sz,2,0,false,true⟩,⟨dn1,2,0,false,true⟩],_,[],[⟨true,true,45,[ag [AV.vec g 3 (List.map Bk.a l),AV.vec h 2 (List.map Sb.a s)]],[],tu [AV.ptr 0 0 0 0,vi z,vi 0],[⟨[zTpO1],5,0,false,false⟩,⟨sm,2,0,false,true⟩,⟨st,2,0,false,true⟩,⟨dp,2,0,false,true⟩,⟨sz,2,0,false,true⟩,⟨[],2,0,false,true⟩]⟩,⟨true,true,46,[AV.ptr 0 0 0 0,AV.vec g 3 (List.map Bk.a l)],[⟨[zTpO1],5,0,false,false⟩,⟨sm,2,0,false,true⟩,⟨st,2,0,false,true⟩,⟨dp,2,0,false,true⟩,⟨sz,2,0,false,true⟩,⟨[],2,0,false,true⟩],AV.vec bf 3 (List.map Bk.a Y),[⟨[zTpO1],5,0,false,false⟩,⟨sm,2,0,false,true⟩,⟨st,2,0,false,true⟩,⟨dp,2,0,false,true⟩,⟨sz,2,0,false,true⟩,⟨dn1,2,0,false,true⟩]⟩]⟩ (by kernel_rfl) (bc rfl (bc rfl (bc rfl b0))) q0 (cc (fun _ => k1) (cc (fun _ => k2) c0)) (by (try rw [w3]);all_goals exact wp_narrow [] (by kernel_rfl) H)
theorem tvEpE (g:Bool) (l:List Bk) (h:Bool) (s:List Sb) (z e:Int) (dq:AV) (H :
  (Ev M1 (Conf.own 45 [ag [AV.vec g 3 (List.map Bk.a l),AV.vec h 2 (List.map Sb.a s)]] []) (tu [AV.nilp,vi z,vi e]) []) /\
  ((¬e = 0) -> Weak (tu [AV.vnil,vi e]) dq) /\
  (¬(¬e = 0) -> False)) :
 tvEpE_at g l h s (PureQ dq):=by
 unfold tvEpE_at
 obtain ⟨k1,H⟩:=H
 refine path_wp (G:=given kp16 [(1,1,(.call (.tup [.nilp,.int .i64 z,.int .i64 e]) none:Ans))] []) 7 [] ⟨(atC (cd Try.f16) [1,1,0,1]),[(1,AV.ptr 0 0 0 0),(4,AV.nilp),(6,vi e),(17,vb (e != 0))],[⟨[ag [AV.vec g 3 (List.map Bk.a l),AV.vec h 2 (List.map Sb.a s)]],2,0,false,false⟩],_,[],[⟨true,true,45,[ag [AV.vec g 3 (List.map Bk.a l),AV.vec h 2 (List.map Sb.a s)]],[],tu [AV.nilp,vi z,vi e],[]⟩]⟩ (by kernel_rfl) (bc rfl b0) q0 (cc (fun _ => k1) c0) ?_
 rcases xm (¬e = 0) with d3 | d3
 ·have H:=H.1 d3
  exact path_rq (G:=given kp16 [] []) 1000 [true] (tu [AV.vnil,vi e]) (by kernel_rfl) (bc (beq_t (i_ne.2 d3)) b0) q0 c0 H
 ·have H:=H.2 d3
  exact False.elim H
theorem tvEpz (bf:Bool) (Y:List Bk) (n i:Int)  (dq:AV) (H :
  ((i < n) -> (0 <= i) /\
   (i.toNat < Y.length) /\
   (Sp.okW (Y.getD i.toNat default).3) /\
   (-9223372036854775808 <= i + 1 /\ i + 1 <= 9223372036854775807) /\
   tvEpa_at (bf) (Y) (n) (i + 1) ([{ sk:=(Y.getD i.toNat default).1,f:=false,ws:=(Y.getD i.toNat default).3,cm:=(Y.getD i.toNat default).4 }]) (0) (PureQ dq)) /\
  (¬(i < n) -> Weak (tu [AV.vnil,vi 0]) dq)) :
 tvEpz_at bf Y n i (PureQ dq):=by
 unfold tvEpz_at
 rcases xm (i < n) with d2 | d2
 ·have H:=H.1 d2
  obtain ⟨k4,H⟩:=H
  have w5:(List.map Bk.a Y).length = Y.length:=List.length_map ..
  have i6:(decide (i.toNat < (List.map Bk.a Y).length)) = true ↔ (i.toNat < Y.length):=(by (try rw [w5]);all_goals exact i_dec)
  obtain ⟨k7,H⟩:=H
  obtain ⟨k8,H⟩:=H
  obtain ⟨k9,H⟩:=H
  have w10:wi (i + 1) = i + 1:=wI64 k9
  have w11:[ag [vb (Y.getD i.toNat default).1,AV.vec false 2 (List.map Wo.a (Y.getD i.toNat default).3),AV.str (Y.getD i.toNat default).4]] = List.map Bk.a [{ sk:=(Y.getD i.toNat default).1,f:=false,ws:=(Y.getD i.toNat default).3,cm:=(Y.getD i.toNat default).4 }]:=rfl
  exact path_wp (G:=given kp16 [(7,1,.elem (ag [vb (Y.getD i.toNat default).1,AV.vec (Y.getD i.toNat default).2 2 (List.map Wo.a (Y.getD i.toNat default).3),AV.str (Y.getD i.toNat default).4])),(8,2,.call (AV.vec false 2 (List.map Wo.a (Y.getD i.toNat default).3)) none)] []) 1000 [true] ⟨(atC (cd Try.f16) [1,1,1,1,0,1,0,0]),[(7,AV.row 1 0),(22,AV.vec bf 3 (List.map Bk.a Y)),(23,vi n),(24,vi (wi (i + 1)))],[⟨[ag [vb (Y.getD i.toNat default).1,AV.vec false 2 (List.map Wo.a (Y.getD i.toNat default).3),AV.str (Y.getD i.toNat default).4]],3,0,false,false⟩,⟨[ag [vb (Y.getD i.toNat default).1,AV.vec false 2 (List.map Wo.a (Y.getD i.toNat default).3),AV.str (Y.getD i.toNat default).4]],3,0,false,true⟩],_,[((List.map Bk.a Y).get?Internal i.toNat = some (ag [vb (Y.getD i.toNat default).1,AV.vec (Y.getD i.toNat default).2 2 (List.map Wo.a (Y.getD i.toNat default).3),AV.str (Y.getD i.toNat default).4]))],_⟩ (by kernel_rfl) (bc (beq_t (i_dec.2 d2)) (bc (i_dec.2 k4) (bc (i6.2 k7) (bc rfl (bc rfl (bc rfl (bc rfl (bc rfl b0)))))))) (qc (el_map k7) q0) (ce (@ev47 ((Y.getD i.toNat default).2) ((Y.getD i.toNat default).3) k8) c0) (by (try rw [w10]);(try rw [w11]);all_goals exact wp_narrow [1] (by kernel_rfl) H)
 ·have H:=H.2 d2
  exact path_rq (G:=given kp16 [] []) 1000 [false] (tu [AV.vnil,vi 0]) (by kernel_rfl) (bc (beq_f (fun h => d2 (i_dec.1 h))) b0) q0 c0 H
theorem tvEpa (bf:Bool) (Y:List Bk) (n i:Int) (q:List Bk) (v:Nat)  (dq:AV) (H :
  ((i < n) -> (0 <= i) /\
   (i.toNat < Y.length) /\
   (Sp.okW (Y.getD i.toNat default).3) /\
   ((q.length + 1) * 48 <= 1099511627776) /\
   (-9223372036854775808 <= i + 1 /\ i + 1 <= 9223372036854775807) /\
   tvEpa_at (bf) (Y) (n) (i + 1) (q ++ [{ sk:=(Y.getD i.toNat default).1,f:=false,ws:=(Y.getD i.toNat default).3,cm:=(Y.getD i.toNat default).4 }]) (v + 1) (PureQ dq)) /\
  (¬(i < n) -> Weak (tu [AV.vec false 3 (List.map Bk.a q),vi 0]) dq)) :
 tvEpa_at bf Y n i q v (PureQ dq):=by
 unfold tvEpa_at
 rcases xm (i < n) with d2 | d2
 ·have H:=H.1 d2
  obtain ⟨k4,H⟩:=H
  have w5:(List.map Bk.a Y).length = Y.length:=List.length_map ..
  have i6:(decide (i.toNat < (List.map Bk.a Y).length)) = true ↔ (i.toNat < Y.length):=(by (try rw [w5]);all_goals exact i_dec)
  obtain ⟨k7,H⟩:=H
  obtain ⟨k8,H⟩:=H
  have w9:(List.map Bk.a q).length = q.length:=List.length_map ..
  have i10:(decide (((List.map Bk.a q).length + 1) * 48 <= 1099511627776)) = true ↔ ((q.length + 1) * 48 <= 1099511627776):=(by (try rw [w9]);all_goals exact i_dec)
  obtain ⟨k11,H⟩:=H
  have w12:List.map Bk.a q ++ [ag [vb (Y.getD i.toNat default).1,AV.vec false 2 (List.map Wo.a (Y.getD i.toNat default).3),AV.str (Y.getD i.toNat default).4]] = List.map Bk.a (q ++ [{ sk:=(Y.getD i.toNat default).1,f:=false,ws:=(Y.getD i.toNat default).3,cm:=(Y.getD i.toNat default).4 }]):=(lm_app rfl rfl)
  obtain ⟨k13,H⟩:=H
  have w14:wi (i + 1) = i + 1:=wI64 k13
  exact path_wp (G:=given kp16 [(7,1,.elem (ag [vb (Y.getD i.toNat default).1,AV.vec (Y.getD i.toNat default).2 2 (List.map Wo.a (Y.getD i.toNat default).3),AV.str (Y.getD i.toNat default).4])),(8,2,.call (AV.vec false 2 (List.map Wo.a (Y.getD i.toNat default).3)) none)] []) 1000 [true] ⟨(atC (cd Try.f16) [1,1,1,1,0,1,0,0]),[(7,AV.row 0 (v + 1)),(22,AV.vec bf 3 (List.map Bk.a Y)),(23,vi n),(24,vi (wi (i + 1)))],[⟨List.map Bk.a q ++ [ag [vb (Y.getD i.toNat default).1,AV.vec false 2 (List.map Wo.a (Y.getD i.toNat default).3),AV.str (Y.getD i.toNat default).4]],3,v + 1,false,true⟩,⟨[ag [vb (Y.getD i.toNat default).1,AV.vec false 2 (List.map Wo.a (Y.getD i.toNat default).3),AV.str (Y.getD i.toNat default).4]],3,0,false,false⟩],[(decide (i < n)) == true,decide (0 <= i),decide (i.toNat < (List.map Bk.a Y).length),true,true,true,true,v == v,decide (((List.map Bk.a q).length + 1) * 48 <= 1099511627776)],[((List.map Bk.a Y).get?Internal i.toNat = some (ag [vb (Y.getD i.toNat default).1,AV.vec (Y.getD i.toNat default).2 2 (List.map Wo.a (Y.getD i.toNat default).3),AV.str (Y.getD i.toNat default).4]))],_⟩ (by kernel_rfl) (bc (beq_t (i_dec.2 d2)) (bc (i_dec.2 k4) (bc (i6.2 k7) (bc rfl (bc rfl (bc rfl (bc rfl (bc (beq_self_eq_true _) (bc (i10.2 k11) b0))))))))) (qc (el_map k7) q0) (ce (@ev47 ((Y.getD i.toNat default).2) ((Y.getD i.toNat default).3) k8) c0) (by (try rw [w12]);(try rw [w14]);all_goals exact wp_narrow [0] (by kernel_rfl) H)
 ·have H:=H.2 d2
  exact path_ret (G:=given kp16 [] []) 1000 [false] (k:=((atC (cd Try.f16) [1,1,1,1,1,1])).tail) (env':=[(2,AV.row 0 v),(3,vi 0)]) (L':=[⟨List.map Bk.a q,3,v,false,true⟩]) (asm:=[(decide (i < n)) == false]) (eqs:=[]) (calls:=[]) (tu [AV.row 0 v,vi 0]) (by kernel_rfl) (by kernel_rfl) (allB_cons (beq_f (fun h => d2 (i_dec.1 h))) allB_nil) allP_nil allC_nil (pq_weak (d:=(tu [AV.vec false 3 (List.map Bk.a q),vi 0])) (bs:=[v == v]) (by kernel_rfl) (by kernel_rfl) (allB_cons (beq_self_eq_true _) allB_nil) (by kernel_rfl) H)
end Go.Av

namespace Go.Av
open Go.Proofs
namespace Sp
def cl (b:Bk):Bk:=⟨b.sk,false,b.ws,b.cm⟩
def exq (l:List Bk) (s:List Sb):List Bk × Int:=if (siz l s).2 = 0 then ((XM l s).map cl,0) else ([],(siz l s).2)
end Sp
theorem rep_mem {t:Nat} {Y:List Bk} {b:Bk} (h:b ∈ Sp.rep t Y):b ∈ Y:=by
 unfold Sp.rep at h
 obtain ⟨l,h1,h2⟩:=List.mem_flatten.1 h
 rw [List.eq_of_mem_replicate h1] at h2;exact h2
theorem xpd_mem {E:Int -> List Bk} {l:List Bk} {b:Bk} (h:b ∈ Sp.xpd E l):(b ∈ l /\ Sp.cIs b.ws = false) \/ ∃ m,b ∈ E m:=by
 unfold Sp.xpd at h
 obtain ⟨x,h1,h2⟩:=List.mem_flatMap.1 h
 split at h2
 ·exact .inr ⟨_,rep_mem h2⟩
 ·rename_i k
  rw [List.mem_singleton] at h2;subst h2
  exact .inl ⟨h1,Bool.eq_false_iff.2 k⟩
theorem X_mem {S:Int -> List Bk} {b:Bk}:∀ {k:Nat} {n:Int},b ∈ Sp.X S k n -> Sp.cIs b.ws = false /\ ∃ m,b ∈ S m
 | 0,n,h => by cases h
 | k + 1,n,h => by
  rw [Sp.X] at h
  rcases xpd_mem h with ⟨h1,h2⟩ | ⟨m,h1⟩
  ·exact ⟨h2,n,h1⟩
  ·exact X_mem h1
theorem bod_mem {b:Bk} {m:Int}:∀ {s:List Sb} {a:List Bk},b ∈ s.foldl (Sp.bodS m) a -> b ∈ a \/ ∃ x ∈ s,b ∈ x.bl
 | [],_,h => .inl h
 | x :: s,a,h => by
  rcases bod_mem (s:=s) (a:=Sp.bodS m a x) h with h | ⟨y,h1,h2⟩
  ·unfold Sp.bodS at h
   split at h
   ·exact .inr ⟨x,by simp,h⟩
   ·exact .inl h
  ·exact .inr ⟨y,List.mem_cons_of_mem _ h1,h2⟩
theorem XM_mem {l:List Bk} {s:List Sb} {b:Bk} (h:b ∈ Sp.XM l s):Sp.cIs b.ws = false /\ b ∈ Sp.blks l s:=by
 unfold Sp.blks
 rw [List.mem_append,List.mem_flatMap]
 rcases xpd_mem h with ⟨h1,h2⟩ | ⟨m,h1⟩
 ·exact ⟨h2,.inl h1⟩
 ·obtain ⟨h2,n,h3⟩:=X_mem h1
  refine ⟨h2,.inr ?_⟩
  rcases bod_mem h3 with h3 | ⟨x,h3,h4⟩
  ·cases h3
  ·exact ⟨x,h3,h4⟩
theorem tvEpa_loop {bf:Bool} {Y:List Bk} {dq:AV} (hY:∀ b ∈ Y,Sp.okW b.ws) (hl:Y.length <= 1000000) (hq:.tup [bsA false (Y.map Sp.cl),.int .i64 0] = dq):∀ (c i:Nat) (q:List Bk) (v:Nat),i + c = Y.length -> q = (Y.take i).map Sp.cl -> tvEpa_at bf Y Y.length i q v (PureQ dq):=by
 intro c
 induction c with
 | zero =>
  intro i q v hi he
  rw [List.take_of_length_le (by omega)] at he
  refine tvEpa _ _ _ _ _ _ _ ⟨fun h => by omega,fun _ => ?_⟩
  rw [he,<- hq];exact .refl _
 | succ c ih =>
  intro i q v hi he
  have hw:=hY _ (getD_mem (show i < Y.length by omega))
  have hql:q.length = i:=by rw [he,List.length_map,List.length_take];omega
  refine tvEpa _ _ _ _ _ _ _ ⟨fun _ => ?_,fun h => by omega⟩
  rw [Int.toNat_natCast]
  refine ⟨by omega,by omega,hw,by omega,by omega,ih (i + 1) _ _ (by omega) ?_⟩
  rw [List.take_succ_eq_append_getElem (show i < Y.length by omega),List.map_append,<- he,List.getD_eq_getElem?_getD,List.getElem?_eq_getElem (show i < Y.length by omega)];rfl
theorem ev16 (g:Bool) (l:List Bk) (h:Bool) (s:List Sb) (hok:Sp.okN l s):Ev M1 (.pure 16 [.agg [bsA g l,.vec h 2 (s.map Sb.a)]]) (.tup [.vec false 3 ((Sp.exq l s).1.map Bk.a),.int .i64 (Sp.exq l s).2]) []:=by
 by_cases he:(Sp.siz l s).2 = 0
 ·obtain ⟨st,dp,sz,e⟩:=chkd_ok (g:=g) (h:=h) hok he
  obtain ⟨hlen1,hlen⟩:=siz_len he
  obtain ⟨h0,_⟩:=siz_ok he
  obtain ⟨a1,a2,a3,a4⟩:=xe_ok h0
  have hm:=sub_all hok.2.2.1 hok.2.1 (prpB_rep a1) a3
  obtain ⟨bf,dn1,b1,_⟩:=expand_ev (st:=st) (dp:=dp) (sz:=sz) (N:=s.length) hm s.length g l (Nat.le_refl _) hok.1 (main_V h0) (show (Sp.XM l s).length <= 1000000 by omega) [] (dinv0 _)
  have hx:Sp.exq l s = ((Sp.XM l s).map Sp.cl,0):=by unfold Sp.exq;rw [if_pos he]
  rw [hx]
  have hY:∀ b ∈ Sp.XM l s,Sp.okW b.ws:=fun b hb => hok.2.2.2.2 b (XM_mem hb).2
  refine call16 (tvEpT _ _ _ _ _ st dp sz (Sp.siz l s).1 bf (Sp.XM l s) dn1 _ ⟨e,b1,?_⟩)
  cases hXM:Sp.XM l s with
  | nil => exact tvEpz _ _ _ _ _ ⟨fun h => by simp at h,fun _ => weak_tup2' (.vnil 3)⟩
  | cons y Y =>
   rw [<- hXM]
   have h0:0 < (Sp.XM l s).length:=by rw [hXM];simp
   have hw:=hY _ (getD_mem h0)
   refine tvEpz _ _ _ _ _ ⟨fun _ => ⟨by omega,h0,hw,by omega,?_⟩,fun z => by omega⟩
   refine tvEpa_loop hY (by omega) rfl ((Sp.XM l s).length - 1) 1 _ 0 (by omega) ?_
   rw [hXM];rfl
 ·have hx:Sp.exq l s = ([],(Sp.siz l s).2):=by unfold Sp.exq;rw [if_neg he]
  rw [hx]
  exact call16 (tvEpE _ _ _ _ _ _ _ ⟨chkd_err hok fun e => he (by rw [e]),fun _ => weak_tup2' (.vnil 3),fun y => (y he).elim⟩)
end Go.Av

namespace Go.Av
open Go.Proofs
set_option maxRecDepth 100000
end Go.Av

namespace Go.Av
open Go.Proofs
theorem ordB_snoc {Z:List Bk} {e:Bk} {s:List Sb}:Sp.ordB (Z ++ [e]) s = true ↔ (Sp.endB e.ws = true /\ Sp.letB e.ws 79 = false /\ Sp.backB e.ws = false) /\ (∀ b ∈ Z,Sp.mkB b.ws = false) /\ ∀ x ∈ s,Sp.sMk x = false:=by
 have h1:Sp.lastB (Z ++ [e]) = e:=by
  unfold Sp.lastB
  rw [List.length_append,List.length_singleton,Nat.add_sub_cancel,List.getD_eq_getElem?_getD,List.getElem?_append_right (by omega),Nat.sub_self];rfl
 have h2:(Z ++ [e]).take ((Z ++ [e]).length - 1) = Z:=by
  rw [List.length_append,List.length_singleton,Nat.add_sub_cancel,List.take_left'];rfl
 unfold Sp.ordB
 rw [h1,h2,decide_eq_true (show 0 < (Z ++ [e]).length by simp),Bool.true_and]
 simp only [Bool.and_eq_true,Bool.not_eq_true',Sp.anyP,List.any_eq_false]
 constructor
 ·rintro ⟨a,b,c,d,f⟩
  exact ⟨⟨a,b,c⟩,fun x hx => Bool.eq_false_iff.2 (d x hx),fun x hx => Bool.eq_false_iff.2 (f x hx)⟩
 ·rintro ⟨⟨a,b,c⟩,d,f⟩
  exact ⟨a,b,c,fun x hx => by have:=d x hx;unfold Sp.pMk;rw [this];simp,fun x hx => by rw [f x hx];simp⟩
theorem sum_len {l:List Bk} {s:List Sb} (h0:Sp.xe l s = 0):(Sp.sumE (Sp.VN s) l).2 = Sp.cap (Sp.XM l s).length:=by
 unfold Sp.sumE Sp.XM
 rw [sumP_len (E:=Sp.XN s) l 0 0 0 (fun x hx y => by
  obtain ⟨w,hw⟩:=Option.isSome_iff_exists.1 (main_V h0 x hx y).2
  rw [hw,Option.getD_some]
  exact V_len _ _ _ hw) (by omega) rfl,Int.zero_add]
theorem siz_of {l:List Bk} {s:List Sb} (h0:Sp.xe l s = 0) (hd:(Sp.sumE (Sp.VN s) l).1 <= 8) (hl:(Sp.XM l s).length <= 20000):Sp.siz l s = (((Sp.XM l s).length:Int),0):=by
 have e:=sum_len h0
 have ec:Sp.cap ((Sp.XM l s).length:Int) = (Sp.XM l s).length:=by unfold Sp.cap;rw [if_pos (by omega)]
 rw [ec] at e
 unfold Sp.siz
 rw [if_neg (by simp [h0]),if_neg (by omega),e]
theorem xe_of {l:List Bk} {s:List Sb} (h1:Sp.prpB l s = true) (h2:∀ b ∈ Sp.blks l s,Sp.cE b.ws = 0) (h3:∀ b ∈ Sp.blks l s,Sp.cIs b.ws = true -> 0 <= Sp.fnd s (Sp.cN b.ws)) (h4:∀ x ∈ s,(Sp.V (Sp.bod s) s.length x.n).isSome = true):Sp.xe l s = 0:=by
 unfold Sp.xe
 rw [if_neg (by simp [h1]),if_neg,if_neg,if_pos (List.all_eq_true.2 h4)]
 ·rw [Bool.not_eq_true,List.any_eq_false]
  intro b hb
  unfold Sp.lostB
  rw [Bool.and_eq_true,decide_eq_true_eq]
  rintro ⟨k1,k2⟩
  have:=h3 b hb k1;omega
 ·rw [Bool.not_eq_true,List.any_eq_false]
  intro b hb
  unfold Sp.badB
  rw [h2 b hb];simp
theorem xpd_nocall {E:Int -> List Bk}:∀ {l:List Bk},(∀ b ∈ l,Sp.cIs b.ws = false) -> Sp.xpd E l = l
 | [],_ => rfl
 | x :: l,h => by
  rw [xpd_cons,if_neg (by rw [h x (by simp)];simp),xpd_nocall fun b hb => h b (List.mem_cons_of_mem _ hb)];rfl
end Go.Av

namespace Go.Av
open Go.Proofs
def Sp.pc (l:List Bk) (i n:Nat):List Bk:=(l.take (i + n)).drop i
end Go.Av

namespace Go.Av
open Go.Proofs
theorem cl_keys (l:List Bk):(l.map Sp.cl).map Bk.key = l.map Bk.key:=by rw [List.map_map];rfl
theorem okN_of {l:List Bk} {s:List Sb} (h1:Sp.okBs l) (h2:∀ x ∈ s,Sp.okBs x.bl /\ x.bl.length <= 1000) (h3:s.length <= 100) (h4:l.length <= 1000):Sp.okN l s:=
 ⟨h1,⟨by omega,fun x hx => (h2 x hx).1⟩,by omega,blks_ok ⟨h1,h3,h4,h2⟩⟩
end Go.Av

namespace Go.Av
open Go.Proofs
def coR (fx:Bool) (X:List Bl) (gs:List AV) (i:Int) (dq:AV):Prop:=Wp M1 (.run fi20 (atC (cd Try.f20) [1,1,1,1,0,1,0,0]) [(6,.ref 0 0 0 0),(25,.vec fx 1 (X.map Bl.a)),(26,.int .i64 X.length),(27,.int .i64 i)] [⟨gs,3,0,false,true⟩]) (PureQ dq)
theorem svCoa_to {fx:Bool} {X:List Bl} {dq:AV} (h2:(Sp.cat X).length <= 1000000) (h3:X.length <= 1000000) (h0:0 < (Sp.cat X).length) (hR:∀ gs,coR fx X gs 0 dq):∀ (c i:Nat) (s:Int),i + c = X.length -> 0 <= s -> s + (Sp.cat (X.drop i)).length = (Sp.cat X).length -> svCoa_at fx X s X.length i (PureQ dq):=by
 intro c
 induction c with
 | zero =>
  intro i s hi hs he
  rw [List.drop_eq_nil_of_le (by omega),show Sp.cat [] = [] from rfl] at he
  simp only [List.length_nil] at he
  exact svCoa _ _ _ _ _ _ ⟨fun h => by omega,fun _ => ⟨fun _ => ⟨by omega,hR _⟩,fun h => by omega⟩⟩
 | succ c ih =>
  intro i s hi hs he
  rw [cat_drop (by omega),List.length_append] at he
  refine svCoa _ _ _ _ _ _ ⟨fun _ => ?_,fun h => by omega⟩
  rw [Int.toNat_natCast]
  show _ /\ _ /\ (-9223372036854775808 <= s + ((X.getD i default).bl.length:Int) /\ s + ((X.getD i default).bl.length:Int) <= 9223372036854775807) /\ ((s + ((X.getD i default).bl.length:Int) < 0) -> False) /\ (¬(s + ((X.getD i default).bl.length:Int) < 0) -> (-9223372036854775808 <= (i:Int) + 1 /\ (i:Int) + 1 <= 9223372036854775807) /\ svCoa_at fx X (s + ((X.getD i default).bl.length:Int)) X.length (i + 1) _)
  refine ⟨by omega,by omega,by omega,fun h => by omega,fun _ => ⟨by omega,ih (i + 1) _ (by omega) (by omega) (by omega)⟩⟩
theorem svCoc_to {fx:Bool} {X:List Bl} {dq:AV} (h2:(Sp.cat X).length <= 1000000) (h3:X.length <= 1000000) (hq:.vec false 3 ((Sp.cat X).map Bk.a) = dq):∀ (c i:Nat) (q:List Bk) (v:Nat),i + c = X.length -> q ++ Sp.cat (X.drop i) = Sp.cat X -> svCoc_at fx X q v X.length i (PureQ dq):=by
 intro c
 induction c with
 | zero =>
  intro i q v hi he
  rw [List.drop_eq_nil_of_le (by omega)] at he
  rw [<- he,show Sp.cat [] = [] from rfl,List.append_nil] at hq
  exact svCoc _ _ _ _ _ _ _ ⟨fun h => by omega,fun _ => by rw [hq];exact .refl _⟩
 | succ c ih =>
  intro i q v hi he
  rw [cat_drop (by omega),<- List.append_assoc] at he
  refine svCoc _ _ _ _ _ _ _ ⟨fun _ => ?_,fun h => by omega⟩
  rw [Int.toNat_natCast]
  have hl:=congrArg List.length he
  rw [List.length_append,List.length_append] at hl
  refine ⟨by omega,by omega,?_,by omega,ih (i + 1) _ _ (by omega) he⟩
  show (q.length + (X.getD i default).bl.length) * 48 <= _
  omega
theorem concat3 (fx fa fb fc:Bool) (A B C:List Bk) (hC:0 < C.length) (hl:A.length + B.length + C.length <= 1000000):Ev M1 (.pure 20 [.vec fx 1 [bsA fa A,bsA fb B,bsA fc C]]) (bsA false (A ++ (B ++ C))) []:=by
 have hcat:Sp.cat [⟨fa,A⟩,⟨fb,B⟩,⟨fc,C⟩] = A ++ (B ++ C):=by unfold Sp.cat;simp
 have hlen:(Sp.cat [⟨fa,A⟩,⟨fb,B⟩,⟨fc,C⟩]).length <= 1000000:=by rw [hcat,List.length_append,List.length_append];omega
 refine call20 (svCo fx [⟨fa,A⟩,⟨fb,B⟩,⟨fc,C⟩] _ (svCoa_to (X:=[⟨fa,A⟩,⟨fb,B⟩,⟨fc,C⟩]) hlen (by simp) (by rw [hcat,List.length_append,List.length_append];omega) (fun gs => ?_) 3 0 0 rfl (by omega) (by rw [List.drop_zero];omega)))
 have fin:∀ (i:Nat) (q:List Bk) (v:Nat),i <= 3 -> q ++ Sp.cat ([(⟨fa,A⟩:Bl),⟨fb,B⟩,⟨fc,C⟩].drop i) = Sp.cat [⟨fa,A⟩,⟨fb,B⟩,⟨fc,C⟩] -> svCoc_at fx [⟨fa,A⟩,⟨fb,B⟩,⟨fc,C⟩] q v 3 i (PureQ (bsA false (A ++ (B ++ C)))):=fun i q v hi he =>
  svCoc_to (X:=[⟨fa,A⟩,⟨fb,B⟩,⟨fc,C⟩]) hlen (by simp) (by rw [hcat]) (3 - i) i q v (by simp;omega) he
 cases A with
 | cons y A =>
  refine (svCob _ fx fa y A [⟨fb,B⟩,⟨fc,C⟩] 3 _ ⟨fun _ => ⟨by omega,?_,?_⟩,fun k => by omega⟩:svCob_at _ fx fa y A [⟨fb,B⟩,⟨fc,C⟩] 3 _)
  ·simp at hl;omega
  ·exact fin 1 (y :: A) 1 (by omega) (by unfold Sp.cat;simp)
 | nil =>
  refine (svCoz _ fx fa fb fc B C 3 _ ⟨fun _ => ?_,fun k => by omega⟩:svCoz_at _ fx fa fb fc B C 3 _)
  cases B with
  | cons y B =>
   refine (svCox _ fx fa fb fc y B C 3 _ ⟨fun _ => ⟨?_,?_⟩,fun k => by omega⟩:svCox_at _ fx fa fb fc y B C 3 _)
   ·simp at hl;omega
   ·exact fin 2 (y :: B) 1 (by omega) (by unfold Sp.cat;simp)
  | nil =>
   refine (svCoy _ fx fa fb fc C 3 _ ⟨fun _ => ?_,fun k => by omega⟩:svCoy_at _ fx fa fb fc C 3 _)
   cases C with
   | nil => simp at hC
   | cons y C =>
    refine (svCow _ fx fa fb fc y C 3 _ ⟨fun _ => ⟨?_,?_⟩,fun k => by omega⟩:svCow_at _ fx fa fb fc y C 3 _)
    ·simp at hl;omega
    ·exact fin 3 (y :: C) 1 (by omega) (by unfold Sp.cat;simp)
end Go.Av

namespace Go.Av
open Go.Proofs
theorem sumP_dle {D Z:Int -> Int} {t:Int}:∀ (l:List Bk) (d z:Int),(Sp.sumP D Z l d z).1 <= t ↔ d <= t /\ ∀ x ∈ l,Sp.cIs x.ws = true -> 1 + D (Sp.cN x.ws) <= t
 | [],d,z => ⟨fun h => ⟨h,fun x hx => by cases hx⟩,fun h => h.1⟩
 | x :: r,d,z => by
  rw [Sp.sumP]
  by_cases k:Sp.cIs x.ws = true
  ·rw [if_pos k,sumP_dle r]
   have hm:Sp.mx (1 + D (Sp.cN x.ws)) d <= t ↔ 1 + D (Sp.cN x.ws) <= t /\ d <= t:=by unfold Sp.mx;split <;> omega
   rw [hm]
   constructor
   ·rintro ⟨⟨h1,h2⟩,h3⟩
    refine ⟨h2,fun y hy k' => ?_⟩
    rcases List.mem_cons.1 hy with rfl | hy
    ·exact h1
    ·exact h3 y hy k'
   ·rintro ⟨h2,h3⟩
    exact ⟨⟨h3 x (by simp) k,h2⟩,fun y hy => h3 y (List.mem_cons_of_mem _ hy)⟩
  ·rw [if_neg k,sumP_dle r]
   constructor
   ·rintro ⟨h2,h3⟩
    refine ⟨h2,fun y hy k' => ?_⟩
    rcases List.mem_cons.1 hy with rfl | hy
    ·exact (k k').elim
    ·exact h3 y hy k'
   ·rintro ⟨h2,h3⟩
    exact ⟨h2,fun y hy => h3 y (List.mem_cons_of_mem _ hy)⟩
theorem V_dep {S:Int -> List Bk} {k:Nat} {n:Int} {v:Int × Int} (h:Sp.V S k n = some v) {x:Bk} (hx:x ∈ S n) (hc:Sp.cIs x.ws = true):∃ w,Sp.V S k (Sp.cN x.ws) = some w /\ 1 + w.1 <= v.1:=by
 cases k with
 | zero => simp [Sp.V] at h
 | succ k =>
  rw [Sp.V] at h
  split at h
  ·rename_i hd
   obtain ⟨w,hw⟩:=Option.isSome_iff_exists.1 (allD_iff.1 hd x hx hc)
   refine ⟨w,V_mono1 _ _ _ hw,?_⟩
   rw [<- Option.some.inj h]
   have:=((sumP_dle (D:=fun m => ((Sp.V S k m).getD (0,0)).1) (Z:=fun m => ((Sp.V S k m).getD (0,0)).2) (S n) 0 0).1 (Int.le_refl _)).2 x hx hc
   simp only [hw,Option.getD_some] at this
   exact this
  ·cases h
theorem xpd_app (E:Int -> List Bk) (a b:List Bk):Sp.xpd E (a ++ b) = Sp.xpd E a ++ Sp.xpd E b:=by unfold Sp.xpd;rw [List.flatMap_append]
theorem xpd_rep (E:Int -> List Bk) (b:List Bk):∀ k,Sp.xpd E (Sp.rep k b) = Sp.rep k (Sp.xpd E b)
 | 0 => rfl
 | k + 1 => by rw [rep_succ,xpd_app,xpd_rep E b k,rep_succ]
theorem call_end {ws:List Wo} (h:Sp.cIs ws = true):Sp.endB ws = false:=by
 unfold Sp.cIs Sp.okC at h
 simp only [Bool.and_eq_true,decide_eq_true_eq] at h
 obtain ⟨h1,_,h2,_⟩:=h
 unfold Sp.hasW at h1
 unfold Sp.cnt at h2
 unfold Sp.endB Sp.hasW
 rw [decide_eq_true_eq] at h1
 rw [decide_eq_false_iff_not]
 intro h3
 match hc:Sp.codes ws 77,h2 with
 | [y],_ =>
  rw [hc,List.mem_singleton] at h1 h3
  omega
theorem inlined {A C:List Bk} {x:Bk} {t:List Sb} (hx:Sp.xe (A ++ x :: C) t = 0) (hd:(Sp.sumE (Sp.VN t) (A ++ x :: C)).1 <= 8) (hl:(Sp.XM (A ++ x :: C) t).length <= 20000) (k:Sp.cIs x.ws = true) :
  0 < C.length /\ Sp.exq (A ++ (Sp.rep (Sp.cT x.ws).toNat (Sp.bod t (Sp.cN x.ws)) ++ C)) t = Sp.exq (A ++ x :: C) t:=by
 obtain ⟨a1,a2,a3,a4⟩:=xe_ok hx
 have hmv:=main_V hx
 obtain ⟨hn,hv⟩:=hmv x (by simp) k
 have p:=a1
 unfold Sp.prpB at p
 simp only [Bool.and_eq_true] at p
 obtain ⟨p1,p2,p3⟩:=p
 have hC:∃ C' e,C = C' ++ [e]:=by
  rcases List.eq_nil_or_concat C with rfl | ⟨C',e,rfl⟩
  ·have:=(ordB_snoc.1 p2).1.1
   rw [call_end k] at this;cases this
  ·exact ⟨C',e,by simp⟩
 obtain ⟨C',e,rfl⟩:=hC
 have hlen:0 < (C' ++ [e]).length:=by simp
 refine ⟨hlen,?_⟩
 have hbm:∀ b ∈ Sp.bod t (Sp.cN x.ws),∃ y ∈ t,b ∈ y.bl:=fun b hb => by
  rcases bod_mem hb with h | h
  ·cases h
  ·exact h
 rw [show A ++ x :: (C' ++ [e]) = (A ++ x :: C') ++ [e] by simp] at p2
 obtain ⟨o1,o2,o3⟩:=ordB_snoc.1 p2
 have hq:A ++ (Sp.rep (Sp.cT x.ws).toNat (Sp.bod t (Sp.cN x.ws)) ++ (C' ++ [e])) = (A ++ (Sp.rep (Sp.cT x.ws).toNat (Sp.bod t (Sp.cN x.ws)) ++ C')) ++ [e]:=by simp
 have hord:Sp.ordB (A ++ (Sp.rep (Sp.cT x.ws).toNat (Sp.bod t (Sp.cN x.ws)) ++ (C' ++ [e]))) t = true:=by
  rw [hq]
  refine ordB_snoc.2 ⟨o1,fun b hb => ?_,o3⟩
  rw [List.mem_append,List.mem_append] at hb
  rcases hb with hb | hb | hb
  ·exact o2 b (by simp [hb])
  ·obtain ⟨y,hy,hyb⟩:=hbm b (rep_mem hb)
   have:=o3 y hy
   unfold Sp.sMk Sp.anyP at this
   rw [List.any_eq_false] at this
   exact Bool.eq_false_iff.2 (this b hyb)
  ·exact o2 b (by simp [hb])
 have hprp:Sp.prpB (A ++ (Sp.rep (Sp.cT x.ws).toNat (Sp.bod t (Sp.cN x.ws)) ++ (C' ++ [e]))) t = true:=by
  unfold Sp.prpB
  rw [p1,hord,p3];rfl
 have hsub:∀ b ∈ Sp.blks (A ++ (Sp.rep (Sp.cT x.ws).toNat (Sp.bod t (Sp.cN x.ws)) ++ (C' ++ [e]))) t,b ∈ Sp.blks (A ++ x :: (C' ++ [e])) t:=fun b hb => by
  unfold Sp.blks at hb ⊢
  rw [List.mem_append] at hb ⊢
  rcases hb with hb | hb
  ·rw [List.mem_append,List.mem_append] at hb
   rcases hb with hb | hb | hb
   ·exact .inl (by simp [hb])
   ·obtain ⟨y,hy,hyb⟩:=hbm b (rep_mem hb)
    exact .inr (List.mem_flatMap.2 ⟨y,hy,hyb⟩)
   ·exact .inl (List.mem_append_right _ (List.mem_cons_of_mem _ hb))
  ·exact .inr hb
 have hxe:Sp.xe (A ++ (Sp.rep (Sp.cT x.ws).toNat (Sp.bod t (Sp.cN x.ws)) ++ (C' ++ [e]))) t = 0:=by
  refine xe_of hprp (fun b hb => ?_) (fun b hb k => found_of a3 b (hsub b hb) k) a4
  rw [List.any_eq_false] at a2
  have:=a2 b (hsub b hb)
  unfold Sp.badB at this
  simpa using this
 have hXM:Sp.XM (A ++ (Sp.rep (Sp.cT x.ws).toNat (Sp.bod t (Sp.cN x.ws)) ++ (C' ++ [e]))) t = Sp.XM (A ++ x :: (C' ++ [e])) t:=by
  unfold Sp.XM
  rw [xpd_app,xpd_app,xpd_rep,xpd_app _ A,xpd_cons _ x,if_pos k]
  have:Sp.XN t (Sp.cN x.ws) = Sp.xpd (Sp.XN t) (Sp.bod t (Sp.cN x.ws)):=(X_mono1 _ _ hv).symm
  rw [this]
 obtain ⟨v,hv'⟩:=Option.isSome_iff_exists.1 hv
 have hdep:(Sp.sumE (Sp.VN t) (A ++ (Sp.rep (Sp.cT x.ws).toNat (Sp.bod t (Sp.cN x.ws)) ++ (C' ++ [e])))).1 <= 8:=by
  unfold Sp.sumE at hd ⊢
  rw [sumP_dle] at hd ⊢
  refine ⟨hd.1,fun y hy ky => ?_⟩
  rw [List.mem_append,List.mem_append] at hy
  rcases hy with hy | hy | hy
  ·exact hd.2 y (by simp [hy]) ky
  ·obtain ⟨w,w1,w2⟩:=V_dep hv' (rep_mem hy) ky
   have:=hd.2 x (by simp) k
   simp only [hv',Option.getD_some] at this
   have w1':Sp.VN t (Sp.cN y.ws) = some w:=w1
   simp only [w1',Option.getD_some]
   omega
  ·exact hd.2 y (List.mem_append_right _ (List.mem_cons_of_mem _ hy)) ky
 unfold Sp.exq
 rw [siz_of hx hd hl,siz_of hxe hdep (by rw [hXM];exact hl),hXM]
end Go.Av

namespace Go.Av
open Go.Proofs
set_option maxRecDepth 100000
def fi4:Fi:=⟨136,[.tmp 4]⟩
def kp4:List (Nat × List Nat):=[(0,[1,2]),(1,[1,2,30]),(2,[4]),(3,[1,2,5,6]),(4,[1,2,5,6,39]),(5,[4]),(6,[1,2,5,7]),(7,[1,2,5,7,43,44,45]),(8,[1,2,5,7,43,44,45,46]),(9,[1,2,5,7,8,9,43,44,45]),(10,[1,2,5,7,8,12,43,44,45]),(11,[1,2,5,7,8,43,44,45,57]),(12,[1,2,5,7,43,44,45]),(13,[1,2,5,7,43,44,45]),(14,[1,2,5,7,65]),(15,[4]),(16,[2,5,14]),(17,[2,5,14,15,16]),(18,[2,5,14,16,19]),(19,[2,5,14,16,19,101]),(20,[4]),(21,[2,5,14,16,19,20]),(22,[2,5,14,16,19,20,21]),(23,[2,5,14,19,20,21,104,105]),(24,[2,5,14,19,20,21,104,105,106]),(25,[2,5,14,19,20,21,104,105]),(26,[2,5,14,19,20,21,104,105]),(27,[5,20]),(28,[5,22,23]),(29,[4])]
def tvLi_at (g:Bool) (l:List Bk) (h:Bool) (s:List Sb) (w:Int) (Q:AV -> Heap -> Prop):Prop:=Wp M1 (.run fi4 (atC (cd Try.f4) []) [(0,.agg [.vec g 3 (l.map Bk.a),.vec h 2 (s.map Sb.a)]),(1,.int .u8 w)] []) Q
def tvLia_at (g:Bool) (l:List Bk) (h:Bool) (s:List Sb) (w:Int) (W:List Bk) (n i:Int) (Q:AV -> Heap -> Prop):Prop:=Wp M1 (.run fi4 (atC (cd Try.f4) [1,1,1,1,1,0,1,0,0]) [(1,.int .u8 w),(2,.ptr 0 0 0 0),(5,.vec false 3 (W.map Bk.a)),(7,.vnil),(43,.vec g 3 (l.map Bk.a)),(44,.int .i64 n),(45,.int .i64 i)] [⟨[.agg [.vec g 3 (l.map Bk.a),.vec h 2 (s.map Sb.a)]],2,0,false,false⟩]) Q
def tvLib_at (g:Bool) (l:List Bk) (h:Bool) (s:List Sb) (w:Int) (W:List Bk) (q:List Int) (v:Nat) (n i:Int) (Q:AV -> Heap -> Prop):Prop:=Wp M1 (.run fi4 (atC (cd Try.f4) [1,1,1,1,1,0,1,0,0]) [(1,.int .u8 w),(2,.ptr 0 0 0 0),(5,.vec false 3 (W.map Bk.a)),(7,.row 1 v),(43,.vec g 3 (l.map Bk.a)),(44,.int .i64 n),(45,.int .i64 i)] [⟨[.agg [.vec g 3 (l.map Bk.a),.vec h 2 (s.map Sb.a)]],2,0,false,false⟩,⟨q.map (.int .i64),1,v,false,true⟩]) Q
def tvLic_at (g:Bool) (l:List Bk) (h:Bool) (s:List Sb) (w:Int) (W:List Bk) (q:List Int) (v:Nat) (Q:AV -> Heap -> Prop):Prop:=Wp M1 (.run fi4 (atC (cd Try.f4) [1,1,1,1,1,1,1]) [(1,.int .u8 w),(2,.ptr 0 0 0 0),(5,.vec false 3 (W.map Bk.a)),(7,.row 1 v)] [⟨[.agg [.vec g 3 (l.map Bk.a),.vec h 2 (s.map Sb.a)]],2,0,false,false⟩,⟨q.map (.int .i64),1,v,false,true⟩]) Q
def tvLid_at (g:Bool) (l:List Bk) (h:Bool) (s:List Sb) (t:List Sb) (W:List Bk) (fb:Bool) (j t1 k:Int) (Q:AV -> Heap -> Prop):Prop:=Wp M1 (.run fi4 (atC (cd Try.f4) [1,1,1,1,1,1,1,1,1,1,1,1,1,0,1,0,0]) [(2,.ptr 0 0 0 0),(5,.vec false 3 (W.map Bk.a)),(14,.int .i64 j),(19,.vec fb 3 []),(20,.ptr 1 0 0 0),(21,.vnil),(104,.int .i64 t1),(105,.int .i64 k)] [⟨[.agg [.vec g 3 (l.map Bk.a),.vec h 2 (s.map Sb.a)]],2,0,false,false⟩,⟨[.agg [.vec false 3 (l.map Bk.a),.vec false 2 (t.map Sb.a)]],2,0,false,false⟩]) Q
def tvLih_at (g:Bool) (l:List Bk) (h:Bool) (s:List Sb) (t:List Sb) (W:List Bk) (fb:Bool) (y:Bk) (b:List Bk) (j t1 k:Int) (Q:AV -> Heap -> Prop):Prop:=Wp M1 (.run fi4 (atC (cd Try.f4) [1,1,1,1,1,1,1,1,1,1,1,1,1,0,1,0,0]) [(2,.ptr 0 0 0 0),(5,.vec false 3 (W.map Bk.a)),(14,.int .i64 j),(19,.vec fb 3 ((y :: b).map Bk.a)),(20,.ptr 1 0 0 0),(21,.vnil),(104,.int .i64 t1),(105,.int .i64 k)] [⟨[.agg [.vec g 3 (l.map Bk.a),.vec h 2 (s.map Sb.a)]],2,0,false,false⟩,⟨[.agg [.vec false 3 (l.map Bk.a),.vec false 2 (t.map Sb.a)]],2,0,false,false⟩]) Q
def tvLie_at (g:Bool) (l:List Bk) (h:Bool) (s:List Sb) (t:List Sb) (W:List Bk) (fb:Bool) (b:List Bk) (q:List Bk) (v:Nat) (j t1 k:Int) (Q:AV -> Heap -> Prop):Prop:=Wp M1 (.run fi4 (atC (cd Try.f4) [1,1,1,1,1,1,1,1,1,1,1,1,1,0,1,0,0]) [(2,.ptr 0 0 0 0),(5,.vec false 3 (W.map Bk.a)),(14,.int .i64 j),(19,.vec fb 3 (b.map Bk.a)),(20,.ptr 1 0 0 0),(21,.row 2 v),(104,.int .i64 t1),(105,.int .i64 k)] [⟨[.agg [.vec g 3 (l.map Bk.a),.vec h 2 (s.map Sb.a)]],2,0,false,false⟩,⟨[.agg [.vec false 3 (l.map Bk.a),.vec false 2 (t.map Sb.a)]],2,0,false,false⟩,⟨q.map Bk.a,3,v,false,true⟩]) Q
def tvLif_at (g:Bool) (l:List Bk) (h:Bool) (s:List Sb) (t:List Sb) (W:List Bk) (j:Int) (Q:AV -> Heap -> Prop):Prop:=Wp M1 (.run fi4 (atC (cd Try.f4) [1,1,1,1,1,1,1,1,1,1,1,1,1,1]) [(2,.ptr 0 0 0 0),(5,.vec false 3 (W.map Bk.a)),(14,.int .i64 j),(20,.ptr 1 0 0 0),(21,.vnil)] [⟨[.agg [.vec g 3 (l.map Bk.a),.vec h 2 (s.map Sb.a)]],2,0,false,false⟩,⟨[.agg [.vec false 3 (l.map Bk.a),.vec false 2 (t.map Sb.a)]],2,0,false,false⟩]) Q
def tvLig_at (g:Bool) (l:List Bk) (h:Bool) (s:List Sb) (t:List Sb) (W:List Bk) (q:List Bk) (j:Int) (Q:AV -> Heap -> Prop):Prop:=Wp M1 (.run fi4 (atC (cd Try.f4) [1,1,1,1,1,1,1,1,1,1,1,1,1,1]) [(2,.ptr 0 0 0 0),(5,.vec false 3 (W.map Bk.a)),(14,.int .i64 j),(20,.ptr 1 0 0 0),(21,.vec false 3 (q.map Bk.a))] [⟨[.agg [.vec g 3 (l.map Bk.a),.vec h 2 (s.map Sb.a)]],2,0,false,true⟩,⟨[.agg [.vec false 3 (l.map Bk.a),.vec false 2 (t.map Sb.a)]],2,0,false,true⟩]) Q
theorem call4 {args:List AV} {d:AV} (h:wc M1 fi4 Try.f4 args d):Ev M1 (.pure 4 args) d []:=pcl _ _ (by kernel_rfl) h
theorem tvLi (g:Bool) (l:List Bk) (h:Bool) (s:List Sb) (w:Int)  (dq:AV) (H :
  ((¬(Sp.fewA l s = true)) -> vb true = dq) /\
  (¬(¬(Sp.fewA l s = true)) -> (l.length <= 1000000 /\ s.length <= 1000000 /\ ∀ (x:Sb),x ∈ s -> x.bl.length <= 1000000) /\
   (Sp.okN l (Sp.own s)) /\
   ((¬(Sp.exq l (Sp.own s)).snd = 0) -> (vb ((Sp.exq l (Sp.own s)).snd != 0)) = dq) /\
   (¬(¬(Sp.exq l (Sp.own s)).snd = 0) -> tvLia_at (g) (l) (h) (s) (w) ((Sp.exq l (Sp.own s)).1) ((↑l.length:Int)) (0) (PureQ dq)))) :
 tvLi_at g l h s w (PureQ dq):=by
 unfold tvLi_at
 refine path_wp (G:=given kp4 [(1,0,.call (vb true) none),(1,4,.call (vb (Sp.fewA l s)) none)] []) 5 [] ⟨(atC (cd Try.f4) [1,0,1]),[(1,AV.int IntKind.u8 w),(2,AV.ptr 0 0 0 0),(30,vb !Sp.fewA l s)],[⟨[ag [AV.vec g 3 (List.map Bk.a l),AV.vec h 2 (List.map Sb.a s)]],2,0,false,false⟩],_,[],_⟩ (by kernel_rfl) (bc rfl b0) q0 (ce (@ev11 ) (ce (@ev15 (g) (h) (l) (s)) c0)) ?_
 rcases xm (¬(Sp.fewA l s = true)) with d2 | d2
 ·have H:=H.1 d2
  exact path_re (G:=given kp4 [(2,0,.call (vb true) none)] []) 1000 [true] (asm:=[(!Sp.fewA l s) == true]) (vb true) (by kernel_rfl) (bc (beq_t ((i_not (i_var _)).2 d2)) b0) q0 (ce (@ev11 ) c0) H
 ·have H:=H.2 d2
  obtain ⟨k3,H⟩:=H
  obtain ⟨k4,H⟩:=H
  refine path_wp (G:=given kp4 [(3,1,.call (ag [AV.vec false 3 (List.map Bk.a l),AV.vec false 2 (List.map Sb.a (Sp.own s))]) none),(3,2,.call (tu [AV.vec false 3 (List.map Bk.a (Sp.exq l (Sp.own s)).1),vi (Sp.exq l (Sp.own s)).snd]) none)] []) 7 [false] ⟨(atC (cd Try.f4) [1,1,1,0,1]),[(1,AV.int IntKind.u8 w),(2,AV.ptr 0 0 0 0),(5,AV.vec false 3 (List.map Bk.a (Sp.exq l (Sp.own s)).1)),(6,vi (Sp.exq l (Sp.own s)).snd),(39,vb ((Sp.exq l (Sp.own s)).snd != 0))],[⟨[ag [AV.vec g 3 (List.map Bk.a l),AV.vec h 2 (List.map Sb.a s)]],2,0,false,false⟩],[(!Sp.fewA l s) == false,true],[],_⟩ (by kernel_rfl) (bc (beq_f (fun h => d2 ((i_not (i_var _)).1 h))) (bc rfl b0)) q0 (ce (@ev17 (g) (h) (l) (s) k3) (ce (@ev16 (false) (l) (false) (Sp.own s) k4) c0)) ?_
  rcases xm (¬(Sp.exq l (Sp.own s)).snd = 0) with d6 | d6
  ·have H:=H.1 d6
   exact path_re (G:=given kp4 [] []) 1000 [true] (vb ((Sp.exq l (Sp.own s)).snd != 0)) (by kernel_rfl) (bc (beq_t (i_ne.2 d6)) b0) q0 c0 H
  ·have H:=H.2 d6
   have w7:(List.map Bk.a l).length = l.length:=List.length_map ..
   exact path_wp (G:=given kp4 [] []) 1000 [false] ⟨(atC (cd Try.f4) [1,1,1,1,1,0,1,0,0]),[(1,AV.int IntKind.u8 w),(2,AV.ptr 0 0 0 0),(5,AV.vec false 3 (List.map Bk.a (Sp.exq l (Sp.own s)).1)),(7,AV.vnil),(43,AV.vec g 3 (List.map Bk.a l)),(44,vi (↑(List.map Bk.a l).length:Int)),(45,vi 0)],[⟨[ag [AV.vec g 3 (List.map Bk.a l),AV.vec h 2 (List.map Sb.a s)]],2,0,false,false⟩],_,[],_⟩ (by kernel_rfl) (bc (beq_f (fun h => d6 (i_ne.1 h))) (bc rfl b0)) q0 c0 (by (try rw [w7]);all_goals exact H)
theorem tvLia (g:Bool) (l:List Bk) (h:Bool) (s:List Sb) (w:Int) (W:List Bk) (n i:Int)  (dq:AV) (H :
  ((i < n) -> (0 <= i) /\
   (i.toNat < l.length) /\
   (Sp.okW (l.getD i.toNat default).3) /\
   ((Sp.cIs (l.getD i.toNat default).3 = true) -> (-9223372036854775808 <= i + 1 /\ i + 1 <= 9223372036854775807) /\
    tvLib_at (g) (l) (h) (s) (w) (W) ([i]) (0) (n) (i + 1) (PureQ dq)) /\
   (¬(Sp.cIs (l.getD i.toNat default).3 = true) -> (-9223372036854775808 <= i + 1 /\ i + 1 <= 9223372036854775807) /\
    tvLia_at (g) (l) (h) (s) (w) (W) (n) (i + 1) (PureQ dq))) /\
  (¬(i < n) -> (Sp.okBs W) /\
   vb (Sp.sameL W l) = dq)) :
 tvLia_at g l h s w W n i (PureQ dq):=by
 unfold tvLia_at
 rcases xm (i < n) with d2 | d2
 ·have H:=H.1 d2
  obtain ⟨k4,H⟩:=H
  have w5:(List.map Bk.a l).length = l.length:=List.length_map ..
  have i6:(decide (i.toNat < (List.map Bk.a l).length)) = true ↔ (i.toNat < l.length):=(by (try rw [w5]);all_goals exact i_dec)
  obtain ⟨k7,H⟩:=H
  obtain ⟨k8,H⟩:=H
  refine path_wp (G:=given kp4 [(9,2,.elem (ag [vb (l.getD i.toNat default).1,AV.vec (l.getD i.toNat default).2 2 (List.map Wo.a (l.getD i.toNat default).3),AV.str (l.getD i.toNat default).4])),(10,1,.call (tu [vi (Sp.cN (l.getD i.toNat default).3),vi (Sp.cT (l.getD i.toNat default).3),vb (Sp.cIs (l.getD i.toNat default).3),vi (Sp.cE (l.getD i.toNat default).3)]) none)] []) 13 [true] ⟨(atC (cd Try.f4) [1,1,1,1,1,0,1,0,0,1,1,0,0,1,1,1]),[(1,AV.int IntKind.u8 w),(2,AV.ptr 0 0 0 0),(5,AV.vec false 3 (List.map Bk.a W)),(7,AV.vnil),(8,vi i),(43,AV.vec g 3 (List.map Bk.a l)),(44,vi n),(45,vi i),(57,vb (Sp.cIs (l.getD i.toNat default).3))],[⟨[ag [AV.vec g 3 (List.map Bk.a l),AV.vec h 2 (List.map Sb.a s)]],2,0,false,false⟩,⟨[ag [vb (l.getD i.toNat default).1,AV.vec (l.getD i.toNat default).2 2 (List.map Wo.a (l.getD i.toNat default).3),AV.str (l.getD i.toNat default).4]],3,0,false,false⟩],_,[((List.map Bk.a l).get?Internal i.toNat = some (ag [vb (l.getD i.toNat default).1,AV.vec (l.getD i.toNat default).2 2 (List.map Wo.a (l.getD i.toNat default).3),AV.str (l.getD i.toNat default).4]))],_⟩ (by kernel_rfl) (bc (beq_t (i_dec.2 d2)) (bc (i_dec.2 k4) (bc (i6.2 k7) (bc rfl (bc rfl b0))))) (qc (el_map k7) q0) (ce (@ev14 ((l.getD i.toNat default).1) ((l.getD i.toNat default).2) ((l.getD i.toNat default).3) ((l.getD i.toNat default).4) k8) c0) ?_
  rcases xm (Sp.cIs (l.getD i.toNat default).3 = true) with d10 | d10
  ·have H:=H.1 d10
   obtain ⟨k11,H⟩:=H
   have w12:wi (i + 1) = i + 1:=wI64 k11
   have w13:[vi i] = List.map (vi) [i]:=rfl
   exact path_wp (G:=given kp4 [] []) 1000 [true] ⟨(atC (cd Try.f4) [1,1,1,1,1,0,1,0,0]),[(1,AV.int IntKind.u8 w),(2,AV.ptr 0 0 0 0),(5,AV.vec false 3 (List.map Bk.a W)),(7,AV.row 2 0),(43,AV.vec g 3 (List.map Bk.a l)),(44,vi n),(45,vi (wi (i + 1)))],[⟨[ag [AV.vec g 3 (List.map Bk.a l),AV.vec h 2 (List.map Sb.a s)]],2,0,false,false⟩,⟨[ag [vb (l.getD i.toNat default).1,AV.vec (l.getD i.toNat default).2 2 (List.map Wo.a (l.getD i.toNat default).3),AV.str (l.getD i.toNat default).4]],3,0,false,false⟩,⟨[vi i],1,0,false,true⟩],[(Sp.cIs (l.getD i.toNat default).3) == true,true],[],_⟩ (by kernel_rfl) (bc (beq_t ((i_var _).2 d10)) (bc rfl b0)) q0 c0 (by (try rw [w12]);(try rw [w13]);all_goals exact wp_narrow [0,2] (by kernel_rfl) H)
  ·have H:=H.2 d10
   obtain ⟨k14,H⟩:=H
   have w15:wi (i + 1) = i + 1:=wI64 k14
   exact path_wp (G:=given kp4 [] []) 1000 [false] ⟨(atC (cd Try.f4) [1,1,1,1,1,0,1,0,0]),[(1,AV.int IntKind.u8 w),(2,AV.ptr 0 0 0 0),(5,AV.vec false 3 (List.map Bk.a W)),(7,AV.vnil),(43,AV.vec g 3 (List.map Bk.a l)),(44,vi n),(45,vi (wi (i + 1)))],[⟨[ag [AV.vec g 3 (List.map Bk.a l),AV.vec h 2 (List.map Sb.a s)]],2,0,false,false⟩,⟨[ag [vb (l.getD i.toNat default).1,AV.vec (l.getD i.toNat default).2 2 (List.map Wo.a (l.getD i.toNat default).3),AV.str (l.getD i.toNat default).4]],3,0,false,false⟩],[(Sp.cIs (l.getD i.toNat default).3) == false],[],_⟩ (by kernel_rfl) (bc (beq_f (fun h => d10 ((i_var _).1 h))) b0) q0 c0 (by (try rw [w15]);all_goals exact wp_narrow [0] (by kernel_rfl) H)
 ·have H:=H.2 d2
  obtain ⟨k16,H⟩:=H
  exact path_re (G:=given kp4 [(15,3,.call (vb (Sp.sameL W l)) none)] []) 1000 [false,true] (vb (Sp.sameL W l)) (by kernel_rfl) (bc (beq_f (fun h => d2 (i_dec.1 h))) (bc rfl (bc rfl b0))) q0 (ce (@ev18 (false) (g) (W) (l) k16) c0) H
theorem tvLib (g:Bool) (l:List Bk) (h:Bool) (s:List Sb) (w:Int) (W:List Bk) (q:List Int) (v:Nat) (n i:Int)  (dq:AV) (H :
  ((i < n) -> (0 <= i) /\
   (i.toNat < l.length) /\
   (Sp.okW (l.getD i.toNat default).3) /\
   ((Sp.cIs (l.getD i.toNat default).3 = true) -> ((q.length + 1) * 8 <= 1099511627776) /\
    (-9223372036854775808 <= i + 1 /\ i + 1 <= 9223372036854775807) /\
    tvLib_at (g) (l) (h) (s) (w) (W) (q ++ [i]) (v + 1) (n) (i + 1) (PureQ dq)) /\
   (¬(Sp.cIs (l.getD i.toNat default).3 = true) -> (-9223372036854775808 <= i + 1 /\ i + 1 <= 9223372036854775807) /\
    tvLib_at (g) (l) (h) (s) (w) (W) (q) (v) (n) (i + 1) (PureQ dq))) /\
  (¬(i < n) -> (((↑q.length:Int) = 0) -> (Sp.okBs W) /\
    vb (Sp.sameL W l) = dq) /\
   (¬((↑q.length:Int) = 0) -> tvLic_at (g) (l) (h) (s) (w) (W) (q) (v) (PureQ dq)))) :
 tvLib_at g l h s w W q v n i (PureQ dq):=by
 unfold tvLib_at
 rcases xm (i < n) with d2 | d2
 ·have H:=H.1 d2
  obtain ⟨k4,H⟩:=H
  have w5:(List.map Bk.a l).length = l.length:=List.length_map ..
  have i6:(decide (i.toNat < (List.map Bk.a l).length)) = true ↔ (i.toNat < l.length):=(by (try rw [w5]);all_goals exact i_dec)
  obtain ⟨k7,H⟩:=H
  obtain ⟨k8,H⟩:=H
  refine path_wp (G:=given kp4 [(9,2,.elem (ag [vb (l.getD i.toNat default).1,AV.vec (l.getD i.toNat default).2 2 (List.map Wo.a (l.getD i.toNat default).3),AV.str (l.getD i.toNat default).4])),(10,1,.call (tu [vi (Sp.cN (l.getD i.toNat default).3),vi (Sp.cT (l.getD i.toNat default).3),vb (Sp.cIs (l.getD i.toNat default).3),vi (Sp.cE (l.getD i.toNat default).3)]) none)] []) 13 [true] ⟨(atC (cd Try.f4) [1,1,1,1,1,0,1,0,0,1,1,0,0,1,1,1]),[(1,AV.int IntKind.u8 w),(2,AV.ptr 0 0 0 0),(5,AV.vec false 3 (List.map Bk.a W)),(7,AV.row 1 v),(8,vi i),(43,AV.vec g 3 (List.map Bk.a l)),(44,vi n),(45,vi i),(57,vb (Sp.cIs (l.getD i.toNat default).3))],[⟨[ag [AV.vec g 3 (List.map Bk.a l),AV.vec h 2 (List.map Sb.a s)]],2,0,false,false⟩,⟨List.map (vi) q,1,v,false,true⟩,⟨[ag [vb (l.getD i.toNat default).1,AV.vec (l.getD i.toNat default).2 2 (List.map Wo.a (l.getD i.toNat default).3),AV.str (l.getD i.toNat default).4]],3,0,false,false⟩],_,[((List.map Bk.a l).get?Internal i.toNat = some (ag [vb (l.getD i.toNat default).1,AV.vec (l.getD i.toNat default).2 2 (List.map Wo.a (l.getD i.toNat default).3),AV.str (l.getD i.toNat default).4]))],_⟩ (by kernel_rfl) (bc (beq_t (i_dec.2 d2)) (bc (i_dec.2 k4) (bc (i6.2 k7) (bc rfl (bc rfl b0))))) (qc (el_map k7) q0) (ce (@ev14 ((l.getD i.toNat default).1) ((l.getD i.toNat default).2) ((l.getD i.toNat default).3) ((l.getD i.toNat default).4) k8) c0) ?_
  rcases xm (Sp.cIs (l.getD i.toNat default).3 = true) with d10 | d10
  ·have H:=H.1 d10
   have w11:(List.map (vi) q).length = q.length:=List.length_map ..
   have i12:(decide (((List.map (vi) q).length + 1) * 8 <= 1099511627776)) = true ↔ ((q.length + 1) * 8 <= 1099511627776):=(by (try rw [w11]);all_goals exact i_dec)
   obtain ⟨k13,H⟩:=H
   have w14:List.map (vi) q ++ [vi i] = List.map (vi) (q ++ [i]):=(lm_app rfl rfl)
   obtain ⟨k15,H⟩:=H
   have w16:wi (i + 1) = i + 1:=wI64 k15
   exact path_wp (G:=given kp4 [] []) 1000 [true] ⟨(atC (cd Try.f4) [1,1,1,1,1,0,1,0,0]),[(1,AV.int IntKind.u8 w),(2,AV.ptr 0 0 0 0),(5,AV.vec false 3 (List.map Bk.a W)),(7,AV.row 1 (v + 1)),(43,AV.vec g 3 (List.map Bk.a l)),(44,vi n),(45,vi (wi (i + 1)))],[⟨[ag [AV.vec g 3 (List.map Bk.a l),AV.vec h 2 (List.map Sb.a s)]],2,0,false,false⟩,⟨List.map (vi) q ++ [vi i],1,v + 1,false,true⟩,⟨[ag [vb (l.getD i.toNat default).1,AV.vec (l.getD i.toNat default).2 2 (List.map Wo.a (l.getD i.toNat default).3),AV.str (l.getD i.toNat default).4]],3,0,false,false⟩],[(Sp.cIs (l.getD i.toNat default).3) == true,v == v,decide (((List.map (vi) q).length + 1) * 8 <= 1099511627776)],[],_⟩ (by kernel_rfl) (bc (beq_t ((i_var _).2 d10)) (bc (beq_self_eq_true _) (bc (i12.2 k13) b0))) q0 c0 (by (try rw [w14]);(try rw [w16]);all_goals exact wp_narrow [0,1] (by kernel_rfl) H)
  ·have H:=H.2 d10
   obtain ⟨k17,H⟩:=H
   have w18:wi (i + 1) = i + 1:=wI64 k17
   exact path_wp (G:=given kp4 [] []) 1000 [false] ⟨(atC (cd Try.f4) [1,1,1,1,1,0,1,0,0]),[(1,AV.int IntKind.u8 w),(2,AV.ptr 0 0 0 0),(5,AV.vec false 3 (List.map Bk.a W)),(7,AV.row 1 v),(43,AV.vec g 3 (List.map Bk.a l)),(44,vi n),(45,vi (wi (i + 1)))],[⟨[ag [AV.vec g 3 (List.map Bk.a l),AV.vec h 2 (List.map Sb.a s)]],2,0,false,false⟩,⟨List.map (vi) q,1,v,false,true⟩,⟨[ag [vb (l.getD i.toNat default).1,AV.vec (l.getD i.toNat default).2 2 (List.map Wo.a (l.getD i.toNat default).3),AV.str (l.getD i.toNat default).4]],3,0,false,false⟩],[(Sp.cIs (l.getD i.toNat default).3) == false],[],_⟩ (by kernel_rfl) (bc (beq_f (fun h => d10 ((i_var _).1 h))) b0) q0 c0 (by (try rw [w18]);all_goals exact wp_narrow [0,1] (by kernel_rfl) H)
 ·have H:=H.2 d2
  have w19:(List.map (vi) q).length = q.length:=List.length_map ..
  have i20:((↑(List.map (vi) q).length:Int) == 0) = true ↔ ((↑q.length:Int) = 0):=(by (try rw [w19]);all_goals exact i_eq)
  rcases xm ((↑q.length:Int) = 0) with d21 | d21
  ·have H:=H.1 d21
   obtain ⟨k22,H⟩:=H
   exact path_re (G:=given kp4 [(15,3,.call (vb (Sp.sameL W l)) none)] []) 1000 [false,true] (asm:=[(decide (i < n)) == false,v == v,((↑(List.map (vi) q).length:Int) == 0) == true,true]) (vb (Sp.sameL W l)) (by kernel_rfl) (bc (beq_f (fun h => d2 (i_dec.1 h))) (bc (beq_self_eq_true _) (bc (beq_t (i20.2 d21)) (bc rfl b0)))) q0 (ce (@ev18 (false) (g) (W) (l) k22) c0) H
  ·have H:=H.2 d21
   exact path_wp (G:=given kp4 [] []) 10 [false,false] ⟨(atC (cd Try.f4) [1,1,1,1,1,1,1]),[(1,AV.int IntKind.u8 w),(2,AV.ptr 0 0 0 0),(5,AV.vec false 3 (List.map Bk.a W)),(7,AV.row 1 v),(65,vb ((↑(List.map (vi) q).length:Int) == 0))],[⟨[ag [AV.vec g 3 (List.map Bk.a l),AV.vec h 2 (List.map Sb.a s)]],2,0,false,false⟩,⟨List.map (vi) q,1,v,false,true⟩],[(decide (i < n)) == false,v == v,((↑(List.map (vi) q).length:Int) == 0) == false],[],_⟩ (by kernel_rfl) (bc (beq_f (fun h => d2 (i_dec.1 h))) (bc (beq_self_eq_true _) (bc (beq_f (fun h => d21 (i20.1 h))) b0))) q0 c0 (by (try rw [w19]);all_goals exact Wp.less [1,2,5,7] (H))
noncomputable abbrev zTpQ1 (l:List Bk) (q:List Int) (w:Int) (s:List Sb):=Sp.cT (l.getD (q.getD (w.tmod (↑q.length:Int)).toNat default).toNat default).3 * (↑(s.getD (Sp.fnd s (Sp.cN (l.getD (q.getD (w.tmod (↑q.length:Int)).toNat default).toNat default).3)).toNat default).3.length:Int) > 200
noncomputable abbrev zTpQ2 (l:List Bk) (q:List Int) (w:Int):=Sp.cT (l.getD (q.getD (w.tmod (↑q.length:Int)).toNat default).toNat default).3
theorem tvLic (g:Bool) (l:List Bk) (h:Bool) (s:List Sb) (w:Int) (W:List Bk) (q:List Int) (v:Nat)  (dq:AV) (H :
  (-9223372036854775808 <= w /\ w <= 9223372036854775807) /\
  (¬(↑q.length:Int) = 0) /\
  (0 <= w.tmod (↑q.length:Int)) /\
  ((w.tmod (↑q.length:Int)).toNat < q.length) /\
  (Sp.okW (l.getD (q.getD (w.tmod (↑q.length:Int)).toNat default).toNat default).3) /\
  (0 <= q.getD (w.tmod (↑q.length:Int)).toNat default) /\
  ((q.getD (w.tmod (↑q.length:Int)).toNat default).toNat < l.length) /\
  (s.length <= 1000000) /\
  (0 <= Sp.fnd s (Sp.cN (l.getD (q.getD (w.tmod (↑q.length:Int)).toNat default).toNat default).3)) /\
  ((Sp.fnd s (Sp.cN (l.getD (q.getD (w.tmod (↑q.length:Int)).toNat default).toNat default).3)).toNat < s.length) /\
  (-9223372036854775808 <= Sp.cT (l.getD (q.getD (w.tmod (↑q.length:Int)).toNat default).toNat default).3 * (↑(s.getD (Sp.fnd s (Sp.cN (l.getD (q.getD (w.tmod (↑q.length:Int)).toNat default).toNat default).3)).toNat default).3.length:Int) /\ Sp.cT (l.getD (q.getD (w.tmod (↑q.length:Int)).toNat default).toNat default).3 * (↑(s.getD (Sp.fnd s (Sp.cN (l.getD (q.getD (w.tmod (↑q.length:Int)).toNat default).toNat default).3)).toNat default).3.length:Int) <= 9223372036854775807) /\
  ((Sp.cT (l.getD (q.getD (w.tmod (↑q.length:Int)).toNat default).toNat default).3 * (↑(s.getD (Sp.fnd s (Sp.cN (l.getD (q.getD (w.tmod (↑q.length:Int)).toNat default).toNat default).3)).toNat default).3.length:Int) > 200) -> vb true = dq) /\
  (¬(Sp.cT (l.getD (q.getD (w.tmod (↑q.length:Int)).toNat default).toNat default).3 * (↑(s.getD (Sp.fnd s (Sp.cN (l.getD (q.getD (w.tmod (↑q.length:Int)).toNat default).toNat default).3)).toNat default).3.length:Int) > 200) -> (l.length <= 1000000 /\ s.length <= 1000000 /\ ∀ (x:Sb),x ∈ s -> x.bl.length <= 1000000) /\
   Wp M1 (.run fi4 (atC (cd Try.f4) [1,1,1,1,1,1,1,1,1,1,1,1,1,0,1,0,0]) [(2,AV.ptr 0 0 0 0),(5,AV.vec false 3 (List.map Bk.a W)),(14,vi (q.getD (w.tmod (↑q.length:Int)).toNat default)),(19,AV.vec (s.getD (Sp.fnd s (Sp.cN (l.getD (q.getD (w.tmod (↑q.length:Int)).toNat default).toNat default).3)).toNat default).2 3 (List.map Bk.a (s.getD (Sp.fnd s (Sp.cN (l.getD (q.getD (w.tmod (↑q.length:Int)).toNat default).toNat default).3)).toNat default).3)),(20,AV.ptr 1 0 0 0),(21,AV.vnil),(104,vi (Sp.cT (l.getD (q.getD (w.tmod (↑q.length:Int)).toNat default).toNat default).3)),(105,vi 0)] [{ elems:=[ag [AV.vec g 3 (List.map Bk.a l),AV.vec h 2 (List.map Sb.a s)]],es:=2,ver:=0,frozen:=false,clean:=false },{ elems:=[ag [AV.vec false 3 (List.map Bk.a l),AV.vec false 2 (List.map Sb.a (Sp.own s))]],es:=2,ver:=0,frozen:=false,clean:=false }]) (PureQ dq))) :
 tvLic_at g l h s w W q v (PureQ dq):=by
 unfold tvLic_at
 obtain ⟨k1,H⟩:=H
 have w2:wi w = w:=wI64 k1
 have w3:(List.map (vi) q).length = q.length:=List.length_map ..
 have i4:(!(↑(List.map (vi) q).length:Int) == 0) = true ↔ (¬(↑q.length:Int) = 0):=(by (try rw [w3]);all_goals exact i_neq)
 obtain ⟨k5,H⟩:=H
 have i6:(decide (0 <= (wi w).tmod (↑(List.map (vi) q).length:Int))) = true ↔ (0 <= w.tmod (↑q.length:Int)):=(by (try rw [w2]);(try rw [w3]);all_goals exact i_dec)
 obtain ⟨k7,H⟩:=H
 have i8:(decide (((wi w).tmod (↑(List.map (vi) q).length:Int)).toNat < (List.map (vi) q).length)) = true ↔ ((w.tmod (↑q.length:Int)).toNat < q.length):=(by (try rw [w2]);(try rw [w3]);all_goals exact i_dec)
 obtain ⟨k9,H⟩:=H
 obtain ⟨k10,H⟩:=H
 obtain ⟨k12,H⟩:=H
 have w13:(List.map Bk.a l).length = l.length:=List.length_map ..
 have i14:(decide ((q.getD (w.tmod (↑q.length:Int)).toNat default).toNat < (List.map Bk.a l).length)) = true ↔ ((q.getD (w.tmod (↑q.length:Int)).toNat default).toNat < l.length):=(by (try rw [w13]);all_goals exact i_dec)
 obtain ⟨k15,H⟩:=H
 obtain ⟨k16,H⟩:=H
 obtain ⟨k18,H⟩:=H
 have w19:(List.map Sb.a s).length = s.length:=List.length_map ..
 have i20:(decide ((Sp.fnd s (Sp.cN (l.getD (q.getD (w.tmod (↑q.length:Int)).toNat default).toNat default).3)).toNat < (List.map Sb.a s).length)) = true ↔ ((Sp.fnd s (Sp.cN (l.getD (q.getD (w.tmod (↑q.length:Int)).toNat default).toNat default).3)).toNat < s.length):=(by (try rw [w19]);all_goals exact i_dec)
 obtain ⟨k21,H⟩:=H
 have w22:(List.map Bk.a (s.getD (Sp.fnd s (Sp.cN (l.getD (q.getD (w.tmod (↑q.length:Int)).toNat default).toNat default).3)).toNat default).3).length = (s.getD (Sp.fnd s (Sp.cN (l.getD (q.getD (w.tmod (↑q.length:Int)).toNat default).toNat default).3)).toNat default).3.length:=List.length_map ..
 obtain ⟨k23,H⟩:=H
 have w24:wi (Sp.cT (l.getD (q.getD (w.tmod (↑q.length:Int)).toNat default).toNat default).3 * (↑(s.getD (Sp.fnd s (Sp.cN (l.getD (q.getD (w.tmod (↑q.length:Int)).toNat default).toNat default).3)).toNat default).3.length:Int)) = Sp.cT (l.getD (q.getD (w.tmod (↑q.length:Int)).toNat default).toNat default).3 * (↑(s.getD (Sp.fnd s (Sp.cN (l.getD (q.getD (w.tmod (↑q.length:Int)).toNat default).toNat default).3)).toNat default).3.length:Int):=wI64 k23
 have i25:(decide (wi (Sp.cT (l.getD (q.getD (w.tmod (↑q.length:Int)).toNat default).toNat default).3 * (↑(List.map Bk.a (s.getD (Sp.fnd s (Sp.cN (l.getD (q.getD (w.tmod (↑q.length:Int)).toNat default).toNat default).3)).toNat default).3).length:Int)) > 200)) = true ↔ (zTpQ1 l q w s):=(by (try rw [w22]);(try rw [w24]);all_goals exact i_dec)
 refine path_wp (G:=given kp4 [(16,7,.elem (vi (q.getD (w.tmod (↑q.length:Int)).toNat default))),(17,4,.elem (ag [vb (l.getD (q.getD (w.tmod (↑q.length:Int)).toNat default).toNat default).1,AV.vec (l.getD (q.getD (w.tmod (↑q.length:Int)).toNat default).toNat default).2 2 (List.map Wo.a (l.getD (q.getD (w.tmod (↑q.length:Int)).toNat default).toNat default).3),AV.str (l.getD (q.getD (w.tmod (↑q.length:Int)).toNat default).toNat default).4])),(17,5,.call (tu [vi (Sp.cN (l.getD (q.getD (w.tmod (↑q.length:Int)).toNat default).toNat default).3),vi (zTpQ2 l q w),vb (Sp.cIs (l.getD (q.getD (w.tmod (↑q.length:Int)).toNat default).toNat default).3),vi (Sp.cE (l.getD (q.getD (w.tmod (↑q.length:Int)).toNat default).toNat default).3)]) none),(18,4,.call (vi (Sp.fnd s (Sp.cN (l.getD (q.getD (w.tmod (↑q.length:Int)).toNat default).toNat default).3))) none),(18,7,.elem (ag [vi (s.getD (Sp.fnd s (Sp.cN (l.getD (q.getD (w.tmod (↑q.length:Int)).toNat default).toNat default).3)).toNat default).n,AV.vec (s.getD (Sp.fnd s (Sp.cN (l.getD (q.getD (w.tmod (↑q.length:Int)).toNat default).toNat default).3)).toNat default).2 3 (List.map Bk.a (s.getD (Sp.fnd s (Sp.cN (l.getD (q.getD (w.tmod (↑q.length:Int)).toNat default).toNat default).3)).toNat default).3)]))] []) 9 [] ⟨(atC (cd Try.f4) [1,1,1,1,1,1,1,1,1,1,0,1]),[(2,AV.ptr 0 0 0 0),(5,AV.vec false 3 (List.map Bk.a W)),(14,vi (q.getD (w.tmod (↑q.length:Int)).toNat default)),(16,vi (zTpQ2 l q w)),(19,AV.vec (s.getD (Sp.fnd s (Sp.cN (l.getD (q.getD (w.tmod (↑q.length:Int)).toNat default).toNat default).3)).toNat default).2 3 (List.map Bk.a (s.getD (Sp.fnd s (Sp.cN (l.getD (q.getD (w.tmod (↑q.length:Int)).toNat default).toNat default).3)).toNat default).3)),(101,vb (decide (wi (Sp.cT (l.getD (q.getD (w.tmod (↑q.length:Int)).toNat default).toNat default).3 * (↑(List.map Bk.a (s.getD (Sp.fnd s (Sp.cN (l.getD (q.getD (w.tmod (↑q.length:Int)).toNat default).toNat default).3)).toNat default).3).length:Int)) > 200)))],[⟨[ag [AV.vec g 3 (List.map Bk.a l),AV.vec h 2 (List.map Sb.a s)]],2,0,false,false⟩,⟨List.map (vi) q,1,v,false,true⟩],[v == v,!(↑(List.map (vi) q).length:Int) == 0,v == v,decide (0 <= (wi w).tmod (↑(List.map (vi) q).length:Int)),decide (((wi w).tmod (↑(List.map (vi) q).length:Int)).toNat < (List.map (vi) q).length),v == v,true,decide (0 <= q.getD (w.tmod (↑q.length:Int)).toNat default),decide ((q.getD (w.tmod (↑q.length:Int)).toNat default).toNat < (List.map Bk.a l).length),true,true,decide (0 <= Sp.fnd s (Sp.cN (l.getD (q.getD (w.tmod (↑q.length:Int)).toNat default).toNat default).3)),decide ((Sp.fnd s (Sp.cN (l.getD (q.getD (w.tmod (↑q.length:Int)).toNat default).toNat default).3)).toNat < (List.map Sb.a s).length)],[((List.map (vi) q).get?Internal ((wi w).tmod (↑(List.map (vi) q).length:Int)).toNat = some (vi (q.getD (w.tmod (↑q.length:Int)).toNat default))),((List.map Bk.a l).get?Internal (q.getD (w.tmod (↑q.length:Int)).toNat default).toNat = some (ag [vb (l.getD (q.getD (w.tmod (↑q.length:Int)).toNat default).toNat default).1,AV.vec (l.getD (q.getD (w.tmod (↑q.length:Int)).toNat default).toNat default).2 2 (List.map Wo.a (l.getD (q.getD (w.tmod (↑q.length:Int)).toNat default).toNat default).3),AV.str (l.getD (q.getD (w.tmod (↑q.length:Int)).toNat default).toNat default).4])),((List.map Sb.a s).get?Internal (Sp.fnd s (Sp.cN (l.getD (q.getD (w.tmod (↑q.length:Int)).toNat default).toNat default).3)).toNat = some (ag [vi (s.getD (Sp.fnd s (Sp.cN (l.getD (q.getD (w.tmod (↑q.length:Int)).toNat default).toNat default).3)).toNat default).n,AV.vec (s.getD (Sp.fnd s (Sp.cN (l.getD (q.getD (w.tmod (↑q.length:Int)).toNat default).toNat default).3)).toNat default).2 3 (List.map Bk.a (s.getD (Sp.fnd s (Sp.cN (l.getD (q.getD (w.tmod (↑q.length:Int)).toNat default).toNat default).3)).toNat default).3)]))],_⟩ (by kernel_rfl) (bc (beq_self_eq_true _) (bc (i4.2 k5) (bc (beq_self_eq_true _) (bc (i6.2 k7) (bc (i8.2 k9) (bc (beq_self_eq_true _) (bc rfl (bc (i_dec.2 k12) (bc (i14.2 k15) (bc rfl (bc rfl (bc (i_dec.2 k18) (bc (i20.2 k21) b0))))))))))))) (qc (by (try rw [w2]);(try rw [w3]);all_goals exact (el_map k9)) (qc (el_map k15) (qc (el_map k21) q0))) (ce (@ev14 ((l.getD (q.getD (w.tmod (↑q.length:Int)).toNat default).toNat default).1) ((l.getD (q.getD (w.tmod (↑q.length:Int)).toNat default).toNat default).2) ((l.getD (q.getD (w.tmod (↑q.length:Int)).toNat default).toNat default).3) ((l.getD (q.getD (w.tmod (↑q.length:Int)).toNat default).toNat default).4) k10) (ce (@ev19 (g) (h) (l) (s) (Sp.cN (l.getD (q.getD (w.tmod (↑q.length:Int)).toNat default).toNat default).3) k16) c0)) ?_
 rcases xm (zTpQ1 l q w s) with d26 | d26
 ·have H:=H.1 d26
  exact path_re (G:=given kp4 [] []) 1000 [true] (vb true) (by kernel_rfl) (bc (beq_t (i25.2 d26)) b0) q0 c0 H
 ·have H:=H.2 d26
  obtain ⟨k27,H⟩:=H
  exact path_wp (G:=given kp4 [(21,1,.call (ag [AV.vec false 3 (List.map Bk.a l),AV.vec false 2 (List.map Sb.a (Sp.own s))]) none)] []) 1000 [false] ⟨(atC (cd Try.f4) [1,1,1,1,1,1,1,1,1,1,1,1,1,0,1,0,0]),[(2,AV.ptr 0 0 0 0),(5,AV.vec false 3 (List.map Bk.a W)),(14,vi (q.getD (w.tmod (↑q.length:Int)).toNat default)),(19,AV.vec (s.getD (Sp.fnd s (Sp.cN (l.getD (q.getD (w.tmod (↑q.length:Int)).toNat default).toNat default).3)).toNat default).2 3 (List.map Bk.a (s.getD (Sp.fnd s (Sp.cN (l.getD (q.getD (w.tmod (↑q.length:Int)).toNat default).toNat default).3)).toNat default).3)),(20,AV.ptr 2 0 0 0),(21,AV.vnil),(104,vi (zTpQ2 l q w)),(105,vi 0)],[⟨[ag [AV.vec g 3 (List.map Bk.a l),AV.vec h 2 (List.map Sb.a s)]],2,0,false,false⟩,⟨List.map (vi) q,1,v,false,true⟩,⟨[ag [AV.vec false 3 (List.map Bk.a l),AV.vec false 2 (List.map Sb.a (Sp.own s))]],2,0,false,false⟩],_,[],_⟩ (by kernel_rfl) (bc (beq_f (fun h => d26 (i25.1 h))) (bc rfl (bc rfl b0))) q0 (ce (@ev17 (g) (h) (l) (s) k27) c0) (wp_narrow [0,2] (by kernel_rfl) H)
theorem tvLid (g:Bool) (l:List Bk) (h:Bool) (s:List Sb) (t:List Sb) (W:List Bk) (fb:Bool) (j t1 k:Int)  (dq:AV) (H :
  ((k < t1) -> (-9223372036854775808 <= k + 1 /\ k + 1 <= 9223372036854775807) /\
   tvLid_at (g) (l) (h) (s) (t) (W) (fb) (j) (t1) (k + 1) (PureQ dq)) /\
  (¬(k < t1) -> tvLif_at (g) (l) (h) (s) (t) (W) (j) (PureQ dq))) :
 tvLid_at g l h s t W fb j t1 k (PureQ dq):=by
 unfold tvLid_at
 rcases xm (k < t1) with d2 | d2
 ·have H:=H.1 d2
  obtain ⟨k3,H⟩:=H
  have w4:wi (k + 1) = k + 1:=wI64 k3
  exact path_wp (G:=given kp4 [] []) 1000 [true] ⟨(atC (cd Try.f4) [1,1,1,1,1,1,1,1,1,1,1,1,1,0,1,0,0]),[(2,AV.ptr 0 0 0 0),(5,AV.vec false 3 (List.map Bk.a W)),(14,vi j),(19,AV.vec fb 3 []),(20,AV.ptr 1 0 0 0),(21,AV.vnil),(104,vi t1),(105,vi (wi (k + 1)))],[⟨[ag [AV.vec g 3 (List.map Bk.a l),AV.vec h 2 (List.map Sb.a s)]],2,0,false,false⟩,⟨[ag [AV.vec false 3 (List.map Bk.a l),AV.vec false 2 (List.map Sb.a t)]],2,0,false,false⟩],_,[],_⟩ (by kernel_rfl) (bc (beq_t (i_dec.2 d2)) b0) q0 c0 (by (try rw [w4]);all_goals exact H)
 ·have H:=H.2 d2
  exact path_wp (G:=given kp4 [] []) 5 [false] ⟨(atC (cd Try.f4) [1,1,1,1,1,1,1,1,1,1,1,1,1,1]),[(2,AV.ptr 0 0 0 0),(5,AV.vec false 3 (List.map Bk.a W)),(14,vi j),(19,AV.vec fb 3 []),(20,AV.ptr 1 0 0 0),(21,AV.vnil),(104,vi t1),(105,vi k),(106,vb (decide (k < t1)))],[⟨[ag [AV.vec g 3 (List.map Bk.a l),AV.vec h 2 (List.map Sb.a s)]],2,0,false,false⟩,⟨[ag [AV.vec false 3 (List.map Bk.a l),AV.vec false 2 (List.map Sb.a t)]],2,0,false,false⟩],_,[],_⟩ (by kernel_rfl) (bc (beq_f (fun h => d2 (i_dec.1 h))) b0) q0 c0 (Wp.less [2,5,14,20,21] (H))
theorem tvLih (g:Bool) (l:List Bk) (h:Bool) (s:List Sb) (t:List Sb) (W:List Bk) (fb:Bool) (y:Bk) (b:List Bk) (j t1 k:Int)  (dq:AV) (H :
  ((k < t1) -> ((b.length + 1) * 48 <= 1099511627776) /\
   (-9223372036854775808 <= k + 1 /\ k + 1 <= 9223372036854775807) /\
   Wp M1 (.run fi4 (atC (cd Try.f4) [1,1,1,1,1,1,1,1,1,1,1,1,1,0,1,0,0]) [(2,AV.ptr 0 0 0 0),(5,AV.vec false 3 (List.map Bk.a W)),(14,vi j),(19,AV.vec fb 3 (ag [vb y.1,AV.vec y.2 2 (List.map Wo.a y.3),AV.str y.4] :: List.map Bk.a b)),(20,AV.ptr 1 0 0 0),(21,AV.row 2 0),(104,vi t1),(105,vi (k + 1))] [{ elems:=[ag [AV.vec g 3 (List.map Bk.a l),AV.vec h 2 (List.map Sb.a s)]],es:=2,ver:=0,frozen:=false,clean:=false },{ elems:=[ag [AV.vec false 3 (List.map Bk.a l),AV.vec false 2 (List.map Sb.a t)]],es:=2,ver:=0,frozen:=false,clean:=false },{ elems:=ag [vb y.1,AV.vec y.2 2 (List.map Wo.a y.3),AV.str y.4] :: List.map Bk.a b,es:=3,ver:=0,frozen:=false,clean:=true }]) (PureQ dq)) /\
  (¬(k < t1) -> tvLif_at (g) (l) (h) (s) (t) (W) (j) (PureQ dq))) :
 tvLih_at g l h s t W fb y b j t1 k (PureQ dq):=by
 unfold tvLih_at
 rcases xm (k < t1) with d2 | d2
 ·have H:=H.1 d2
  have w3:(List.map Bk.a b).length = b.length:=List.length_map ..
  have i4:(decide (((List.map Bk.a b).length + 1) * 48 <= 1099511627776)) = true ↔ ((b.length + 1) * 48 <= 1099511627776):=(by (try rw [w3]);all_goals exact i_dec)
  obtain ⟨k5,H⟩:=H
  obtain ⟨k6,H⟩:=H
  have w7:wi (k + 1) = k + 1:=wI64 k6
  exact path_wp (G:=given kp4 [] []) 1000 [true] ⟨(atC (cd Try.f4) [1,1,1,1,1,1,1,1,1,1,1,1,1,0,1,0,0]),[(2,AV.ptr 0 0 0 0),(5,AV.vec false 3 (List.map Bk.a W)),(14,vi j),(19,AV.vec fb 3 (ag [vb y.1,AV.vec y.2 2 (List.map Wo.a y.3),AV.str y.4] :: List.map Bk.a b)),(20,AV.ptr 1 0 0 0),(21,AV.row 2 0),(104,vi t1),(105,vi (wi (k + 1)))],[⟨[ag [AV.vec g 3 (List.map Bk.a l),AV.vec h 2 (List.map Sb.a s)]],2,0,false,false⟩,⟨[ag [AV.vec false 3 (List.map Bk.a l),AV.vec false 2 (List.map Sb.a t)]],2,0,false,false⟩,⟨ag [vb y.1,AV.vec y.2 2 (List.map Wo.a y.3),AV.str y.4] :: List.map Bk.a b,3,0,false,true⟩],_,[],_⟩ (by kernel_rfl) (bc (beq_t (i_dec.2 d2)) (bc (i4.2 k5) b0)) q0 c0 (by (try rw [w7]);all_goals exact H)
 ·have H:=H.2 d2
  exact path_wp (G:=given kp4 [] []) 5 [false] ⟨(atC (cd Try.f4) [1,1,1,1,1,1,1,1,1,1,1,1,1,1]),[(2,AV.ptr 0 0 0 0),(5,AV.vec false 3 (List.map Bk.a W)),(14,vi j),(19,AV.vec fb 3 (ag [vb y.1,AV.vec y.2 2 (List.map Wo.a y.3),AV.str y.4] :: List.map Bk.a b)),(20,AV.ptr 1 0 0 0),(21,AV.vnil),(104,vi t1),(105,vi k),(106,vb (decide (k < t1)))],[⟨[ag [AV.vec g 3 (List.map Bk.a l),AV.vec h 2 (List.map Sb.a s)]],2,0,false,false⟩,⟨[ag [AV.vec false 3 (List.map Bk.a l),AV.vec false 2 (List.map Sb.a t)]],2,0,false,false⟩],_,[],_⟩ (by kernel_rfl) (bc (beq_f (fun h => d2 (i_dec.1 h))) b0) q0 c0 (Wp.less [2,5,14,20,21] (H))
theorem tvLie (g:Bool) (l:List Bk) (h:Bool) (s:List Sb) (t:List Sb) (W:List Bk) (fb:Bool) (b:List Bk) (q:List Bk) (v:Nat) (j t1 k:Int)  (dq:AV) (H :
  ((k < t1) -> ((q.length + b.length) * 48 <= 1099511627776) /\
   (-9223372036854775808 <= k + 1 /\ k + 1 <= 9223372036854775807) /\
   tvLie_at (g) (l) (h) (s) (t) (W) (fb) (b) (q ++ b) (v + 1) (j) (t1) (k + 1) (PureQ dq)) /\
  (¬(k < t1) -> Wp M1 (.run fi4 (atC (cd Try.f4) [1,1,1,1,1,1,1,1,1,1,1,1,1,1]) [(2,AV.ptr 0 0 0 0),(5,AV.vec false 3 (List.map Bk.a W)),(14,vi j),(20,AV.ptr 1 0 0 0),(21,AV.row 2 v)] [{ elems:=[ag [AV.vec g 3 (List.map Bk.a l),AV.vec h 2 (List.map Sb.a s)]],es:=2,ver:=0,frozen:=false,clean:=false },{ elems:=[ag [AV.vec false 3 (List.map Bk.a l),AV.vec false 2 (List.map Sb.a t)]],es:=2,ver:=0,frozen:=false,clean:=false },{ elems:=List.map Bk.a q,es:=3,ver:=v,frozen:=false,clean:=true }]) (PureQ dq))) :
 tvLie_at g l h s t W fb b q v j t1 k (PureQ dq):=by
 unfold tvLie_at
 rcases xm (k < t1) with d2 | d2
 ·have H:=H.1 d2
  have w3:(List.map Bk.a q).length = q.length:=List.length_map ..
  have w4:(List.map Bk.a b).length = b.length:=List.length_map ..
  have i5:(decide (((List.map Bk.a q).length + (List.map Bk.a b).length) * 48 <= 1099511627776)) = true ↔ ((q.length + b.length) * 48 <= 1099511627776):=(by (try rw [w3]);(try rw [w4]);all_goals exact i_dec)
  obtain ⟨k6,H⟩:=H
  have w7:List.map Bk.a q ++ List.map Bk.a b = List.map Bk.a (q ++ b):=(lm_app rfl rfl)
  obtain ⟨k8,H⟩:=H
  have w9:wi (k + 1) = k + 1:=wI64 k8
  exact path_wp (G:=given kp4 [] []) 1000 [true] ⟨(atC (cd Try.f4) [1,1,1,1,1,1,1,1,1,1,1,1,1,0,1,0,0]),[(2,AV.ptr 0 0 0 0),(5,AV.vec false 3 (List.map Bk.a W)),(14,vi j),(19,AV.vec fb 3 (List.map Bk.a b)),(20,AV.ptr 1 0 0 0),(21,AV.row 2 (v + 1)),(104,vi t1),(105,vi (wi (k + 1)))],[⟨[ag [AV.vec g 3 (List.map Bk.a l),AV.vec h 2 (List.map Sb.a s)]],2,0,false,false⟩,⟨[ag [AV.vec false 3 (List.map Bk.a l),AV.vec false 2 (List.map Sb.a t)]],2,0,false,false⟩,⟨List.map Bk.a q ++ List.map Bk.a b,3,v + 1,false,true⟩],[(decide (k < t1)) == true,v == v,decide (((List.map Bk.a q).length + (List.map Bk.a b).length) * 48 <= 1099511627776)],[],_⟩ (by kernel_rfl) (bc (beq_t (i_dec.2 d2)) (bc (beq_self_eq_true _) (bc (i5.2 k6) b0))) q0 c0 (by (try rw [w7]);(try rw [w9]);all_goals exact H)
 ·have H:=H.2 d2
  exact path_wp (G:=given kp4 [] []) 5 [false] ⟨(atC (cd Try.f4) [1,1,1,1,1,1,1,1,1,1,1,1,1,1]),[(2,AV.ptr 0 0 0 0),(5,AV.vec false 3 (List.map Bk.a W)),(14,vi j),(19,AV.vec fb 3 (List.map Bk.a b)),(20,AV.ptr 1 0 0 0),(21,AV.row 2 v),(104,vi t1),(105,vi k),(106,vb (decide (k < t1)))],[⟨[ag [AV.vec g 3 (List.map Bk.a l),AV.vec h 2 (List.map Sb.a s)]],2,0,false,false⟩,⟨[ag [AV.vec false 3 (List.map Bk.a l),AV.vec false 2 (List.map Sb.a t)]],2,0,false,false⟩,⟨List.map Bk.a q,3,v,false,true⟩],_,[],_⟩ (by kernel_rfl) (bc (beq_f (fun h => d2 (i_dec.1 h))) b0) q0 c0 (Wp.less [2,5,14,20,21] (H))
theorem tvLif (g:Bool) (l:List Bk) (h:Bool) (s:List Sb) (t:List Sb) (W:List Bk) (j:Int)  (dq:AV) (H :
  (-9223372036854775808 <= j + 1 /\ j + 1 <= 9223372036854775807) /\
  ∃ (l1:List (Bk)),
  (Ev M1 (Conf.pure 20 [AV.vec true 1 [AV.vec (g && false) 3 (List.map Bk.a (List.drop 0 (List.take j.toNat l))),AV.vnil,AV.vec (g && true) 3 (List.map Bk.a (List.drop (j + 1).toNat (List.take l.length l)))]]) (AV.vec false 3 (List.map Bk.a l1)) []) /\
  (0 <= j) /\
  (0 <= j.toNat) /\
  (j.toNat <= l.length) /\
  (0 <= j + 1) /\
  ((j + 1).toNat <= l.length) /\
  (Sp.okN l1 t) /\
  (((Sp.exq l1 t).snd = 0) -> (Sp.okBs (Sp.exq l1 t).1)) /\
  vb (bif (Sp.exq l1 t).snd == 0 then Sp.sameL (Sp.exq l1 t).1 W else false) = dq) :
 tvLif_at g l h s t W j (PureQ dq):=by
 unfold tvLif_at
 have w1:List.take j.toNat (List.map Bk.a l) = List.map Bk.a (List.take j.toNat l):=(lm_take rfl)
 have w2:List.drop 0 (List.map Bk.a (List.take j.toNat l)) = List.map Bk.a (List.drop 0 (List.take j.toNat l)):=(lm_drop rfl)
 have w3:(List.map Bk.a l).length = l.length:=List.length_map ..
 have w4:List.take l.length (List.map Bk.a l) = List.map Bk.a (List.take l.length l):=(lm_take rfl)
 obtain ⟨k5,H⟩:=H
 have w6:wi (j + 1) = j + 1:=wI64 k5
 have w7:List.drop (j + 1).toNat (List.map Bk.a (List.take l.length l)) = List.map Bk.a (List.drop (j + 1).toNat (List.take l.length l)):=(lm_drop rfl)
 obtain ⟨l1,H⟩:=H
 obtain ⟨k8,H⟩:=H
 obtain ⟨k10,H⟩:=H
 obtain ⟨k12,H⟩:=H
 have i13:(decide (j.toNat <= (List.map Bk.a l).length)) = true ↔ (j.toNat <= l.length):=(by (try rw [w3]);all_goals exact i_dec)
 obtain ⟨k14,H⟩:=H
 have i15:(decide (0 <= wi (j + 1))) = true ↔ (0 <= j + 1):=(by (try rw [w6]);all_goals exact i_dec)
 obtain ⟨k16,H⟩:=H
 have i17:(decide ((wi (j + 1)).toNat <= (List.map Bk.a l).length)) = true ↔ ((j + 1).toNat <= l.length):=(by (try rw [w3]);(try rw [w6]);all_goals exact i_dec)
 obtain ⟨k18,H⟩:=H
 have i19:(decide ((List.map Bk.a l).length <= (List.map Bk.a l).length)) = true ↔ (l.length <= l.length):=(by (try rw [w3]);all_goals exact i_dec)
 obtain ⟨k20,H⟩:=H
 obtain ⟨k22,H⟩:=H
 exact path_re (G:=given kp4 [(27,11,.call (AV.vec false 3 (List.map Bk.a l1)) none),(28,1,.call (tu [AV.vec false 3 (List.map Bk.a (Sp.exq l1 t).1),vi (Sp.exq l1 t).snd]) none),(29,5,.call (vb (Sp.sameL (Sp.exq l1 t).1 W)) none)] []) 1000 [] (asm:=[true,decide (0 <= j),decide (0 <= j.toNat),decide (j.toNat <= (List.map Bk.a l).length),true,decide (0 <= wi (j + 1)),decide ((wi (j + 1)).toNat <= (List.map Bk.a l).length),decide ((List.map Bk.a l).length <= (List.map Bk.a l).length),true,true]) (calls:=[⟨true,false,20,[AV.vec true 1 [AV.vec (g && false) 3 (List.drop 0 (List.take j.toNat (List.map Bk.a l))),AV.vnil,AV.vec (g && true) 3 (List.drop (wi (j + 1)).toNat (List.take (List.map Bk.a l).length (List.map Bk.a l)))]],[],AV.vec false 3 (List.map Bk.a l1),[]⟩,⟨true,false,16,[ag [AV.vec false 3 (List.map Bk.a l1),AV.vec false 2 (List.map Sb.a t)]],[],tu [AV.vec false 3 (List.map Bk.a (Sp.exq l1 t).1),vi (Sp.exq l1 t).snd],[]⟩,⟨((Sp.exq l1 t).snd == 0) == true && true && true,false,18,[AV.vec false 3 (List.map Bk.a (Sp.exq l1 t).1),AV.vec false 3 (List.map Bk.a W)],[],vb (Sp.sameL (Sp.exq l1 t).1 W),[]⟩]) (vb (bif (Sp.exq l1 t).snd == 0 then Sp.sameL (Sp.exq l1 t).1 W else false)) (by kernel_rfl) (bc rfl (bc (i_dec.2 k10) (bc (i_dec.2 k12) (bc (i13.2 k14) (bc rfl (bc (i15.2 k16) (bc (i17.2 k18) (bc (i19.2 (by omega)) (bc rfl (bc rfl b0)))))))))) q0 (cc (fun _ => (by (try rw [w1]);(try rw [w2]);(try rw [w3]);(try rw [w4]);(try rw [w6]);(try rw [w7]);all_goals exact k8)) (cc (fun _ => (@ev16 (false) (l1) (false) (t) k20)) (cc (fun hc => ((@ev18 (false) (false) ((Sp.exq l1 t).1) (W) (k22 ((i_at (i_at (i_bt i_eq))).1 hc))):Ev M1 (Conf.pure 18 [AV.vec false 3 (List.map Bk.a (Sp.exq l1 t).1),AV.vec false 3 (List.map Bk.a W)]) (vb (Sp.sameL (Sp.exq l1 t).1 W)) [])) c0))) H
theorem tvLig (g:Bool) (l:List Bk) (h:Bool) (s:List Sb) (t:List Sb) (W:List Bk) (q:List Bk) (j:Int)  (dq:AV) (H :
  (-9223372036854775808 <= j + 1 /\ j + 1 <= 9223372036854775807) /\
  ∃ (l1:List (Bk)),
  (Ev M1 (Conf.pure 20 [AV.vec true 1 [AV.vec (g && false) 3 (List.map Bk.a (List.drop 0 (List.take j.toNat l))),AV.vec false 3 (List.map Bk.a q),AV.vec (g && true) 3 (List.map Bk.a (List.drop (j + 1).toNat (List.take l.length l)))]]) (AV.vec false 3 (List.map Bk.a l1)) []) /\
  (0 <= j) /\
  (0 <= j.toNat) /\
  (j.toNat <= l.length) /\
  (0 <= j + 1) /\
  ((j + 1).toNat <= l.length) /\
  (Sp.okN l1 t) /\
  (((Sp.exq l1 t).snd = 0) -> (Sp.okBs (Sp.exq l1 t).1)) /\
  vb (bif (Sp.exq l1 t).snd == 0 then Sp.sameL (Sp.exq l1 t).1 W else false) = dq) :
 tvLig_at g l h s t W q j (PureQ dq):=by
 unfold tvLig_at
 have w1:List.take j.toNat (List.map Bk.a l) = List.map Bk.a (List.take j.toNat l):=(lm_take rfl)
 have w2:List.drop 0 (List.map Bk.a (List.take j.toNat l)) = List.map Bk.a (List.drop 0 (List.take j.toNat l)):=(lm_drop rfl)
 have w3:(List.map Bk.a l).length = l.length:=List.length_map ..
 have w4:List.take l.length (List.map Bk.a l) = List.map Bk.a (List.take l.length l):=(lm_take rfl)
 obtain ⟨k5,H⟩:=H
 have w6:wi (j + 1) = j + 1:=wI64 k5
 have w7:List.drop (j + 1).toNat (List.map Bk.a (List.take l.length l)) = List.map Bk.a (List.drop (j + 1).toNat (List.take l.length l)):=(lm_drop rfl)
 obtain ⟨l1,H⟩:=H
 obtain ⟨k8,H⟩:=H
 obtain ⟨k10,H⟩:=H
 obtain ⟨k12,H⟩:=H
 have i13:(decide (j.toNat <= (List.map Bk.a l).length)) = true ↔ (j.toNat <= l.length):=(by (try rw [w3]);all_goals exact i_dec)
 obtain ⟨k14,H⟩:=H
 have i15:(decide (0 <= wi (j + 1))) = true ↔ (0 <= j + 1):=(by (try rw [w6]);all_goals exact i_dec)
 obtain ⟨k16,H⟩:=H
 have i17:(decide ((wi (j + 1)).toNat <= (List.map Bk.a l).length)) = true ↔ ((j + 1).toNat <= l.length):=(by (try rw [w3]);(try rw [w6]);all_goals exact i_dec)
 obtain ⟨k18,H⟩:=H
 have i19:(decide ((List.map Bk.a l).length <= (List.map Bk.a l).length)) = true ↔ (l.length <= l.length):=(by (try rw [w3]);all_goals exact i_dec)
 obtain ⟨k20,H⟩:=H
 obtain ⟨k22,H⟩:=H
 exact path_re (G:=given kp4 [(27,11,.call (AV.vec false 3 (List.map Bk.a l1)) none),(28,1,.call (tu [AV.vec false 3 (List.map Bk.a (Sp.exq l1 t).1),vi (Sp.exq l1 t).snd]) none),(29,5,.call (vb (Sp.sameL (Sp.exq l1 t).1 W)) none)] []) 1000 [] (asm:=[true,decide (0 <= j),decide (0 <= j.toNat),decide (j.toNat <= (List.map Bk.a l).length),true,decide (0 <= wi (j + 1)),decide ((wi (j + 1)).toNat <= (List.map Bk.a l).length),decide ((List.map Bk.a l).length <= (List.map Bk.a l).length),true,true]) (calls:=[⟨true,false,20,[AV.vec true 1 [AV.vec (g && false) 3 (List.drop 0 (List.take j.toNat (List.map Bk.a l))),AV.vec false 3 (List.map Bk.a q),AV.vec (g && true) 3 (List.drop (wi (j + 1)).toNat (List.take (List.map Bk.a l).length (List.map Bk.a l)))]],[],AV.vec false 3 (List.map Bk.a l1),[]⟩,⟨true,false,16,[ag [AV.vec false 3 (List.map Bk.a l1),AV.vec false 2 (List.map Sb.a t)]],[],tu [AV.vec false 3 (List.map Bk.a (Sp.exq l1 t).1),vi (Sp.exq l1 t).snd],[]⟩,⟨((Sp.exq l1 t).snd == 0) == true && true && true,false,18,[AV.vec false 3 (List.map Bk.a (Sp.exq l1 t).1),AV.vec false 3 (List.map Bk.a W)],[],vb (Sp.sameL (Sp.exq l1 t).1 W),[]⟩]) (vb (bif (Sp.exq l1 t).snd == 0 then Sp.sameL (Sp.exq l1 t).1 W else false)) (by kernel_rfl) (bc rfl (bc (i_dec.2 k10) (bc (i_dec.2 k12) (bc (i13.2 k14) (bc rfl (bc (i15.2 k16) (bc (i17.2 k18) (bc (i19.2 (by omega)) (bc rfl (bc rfl b0)))))))))) q0 (cc (fun _ => (by (try rw [w1]);(try rw [w2]);(try rw [w3]);(try rw [w4]);(try rw [w6]);(try rw [w7]);all_goals exact k8)) (cc (fun _ => (@ev16 (false) (l1) (false) (t) k20)) (cc (fun hc => ((@ev18 (false) (false) ((Sp.exq l1 t).1) (W) (k22 ((i_at (i_at (i_bt i_eq))).1 hc))):Ev M1 (Conf.pure 18 [AV.vec false 3 (List.map Bk.a (Sp.exq l1 t).1),AV.vec false 3 (List.map Bk.a W)]) (vb (Sp.sameL (Sp.exq l1 t).1 W)) [])) c0))) H
end Go.Av
