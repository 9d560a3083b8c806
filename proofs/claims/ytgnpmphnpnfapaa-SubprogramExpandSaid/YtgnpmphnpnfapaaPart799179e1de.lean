/- PART 4 of the texts of a claim, joined by a program: what each part shows stands at its head. -/
import Derived.Test.YtgnpmphnpnfapaaParte82e6b3ba1

namespace Go.Av
open Go.Proofs
set_option maxRecDepth 100000
def fi13:Fi:=⟨80,[.tmp 2,.tmp 3,.tmp 4,.tmp 5]⟩
def kp13:List (Nat × List Nat):=[(0,[1]),(1,[1,16]),(2,[2,3,4,5]),(3,[1,6]),(4,[1,6,7,8,9]),(5,[6,7,8,9,19,20,21]),(6,[6,7,8,9,19,20,21,22]),(7,[6,7,8,9,11,19,20,21]),(8,[6,7,8,9,11,19,20,21]),(9,[6,7,8,9,11,12,13,19,20,21]),(10,[6,7,8,9,12,13,19,20,21,37]),(11,[6,7,8,9,19,20,21]),(12,[6,7,8,9,12,13,19,20,21,37,38]),(13,[6,7,8,9,19,20,21]),(14,[6,7,8,9,12,13,19,20,21,37,45]),(15,[6,7,8,9,19,20,21]),(16,[6,7,8,9,19,20,21,37,52]),(17,[6,7,8,9,19,20,21,52]),(18,[6,7,8,9,19,20,21]),(19,[7,8,77]),(20,[2,3,4,5]),(21,[2,3,4,5])]
def fi14:Fi:=⟨77,[.tmp 2,.tmp 3,.tmp 4,.tmp 5]⟩
def kp14:List (Nat × List Nat):=[(0,[1]),(1,[1,16]),(2,[2,3,4,5]),(3,[1,6,7,8,9,10,11]),(4,[1,6,7,8,9,10,11,12]),(5,[1,6,7,8,9,10,11,12,21]),(6,[1,6,7,8,9,10,11,12]),(7,[1,6,7,8,9,10,11,12,13]),(8,[1,6,7,8,9,10,11,12,13,30]),(9,[2,3,4,5]),(10,[1,6,7,8,9,10,11,12,13,30,31]),(11,[1,6,7,8,9,10,11,12]),(12,[1,6,7,8,9,10,11,12,13,30,35]),(13,[1,7,8,9,10,11,12,13]),(14,[1,6,7,8,9,10,11,12]),(15,[1,6,7,8,9,10,11,12,13,30,42]),(16,[1,6,8,9,10,11,12,13]),(17,[1,6,7,8,9,10,11,12]),(18,[1,6,7,8,9,10,11,12,49]),(19,[1,6,7,8,9,10,11,12]),(20,[6,7,74]),(21,[2,3,4,5]),(22,[2,3,4,5])]
def suK_at (sk f:Bool) (ws:List Wo) (cm:List UInt8) (Q:AV -> Heap -> Prop):Prop:=Wp M1 (.run fi13 (atC (cd Try.f13) []) [(0,.agg [.bool sk,.vec f 2 (ws.map Wo.a),.str cm])] []) Q
def suKa_at (f:Bool) (ws:List Wo) (ms:List AV) (p t n i:Int) (ok:Bool) (Q:AV -> Heap -> Prop):Prop:=Wp M1 (.run fi13 (atC (cd Try.f13) [1,1,1,1,0,1,0,0]) [(6,.mapr 0),(7,.int .i64 p),(8,.int .i64 t),(9,.bool ok),(19,.vec f 2 (ws.map Wo.a)),(20,.int .i64 n),(21,.int .i64 i)] [⟨ms,2,0,false,true⟩]) Q
def suR_at (sk f:Bool) (ws:List Wo) (cm:List UInt8) (Q:AV -> Heap -> Prop):Prop:=Wp M1 (.run fi14 (atC (cd Try.f14) []) [(0,.agg [.bool sk,.vec f 2 (ws.map Wo.a),.str cm])] []) Q
def suRa_at (sk f:Bool) (ws:List Wo) (cm:List UInt8) (a t p l m n i:Int) (Q:AV -> Heap -> Prop):Prop:=Wp M1 (.run fi14 (atC (cd Try.f14) [1,1,1,0,1,0,0]) [(1,.ptr 0 0 0 0),(6,.int .i64 a),(7,.int .i64 t),(8,.int .i64 p),(9,.int .i64 l),(10,.int .i64 m),(11,.int .i64 n),(12,.int .i64 i)] [⟨[.agg [.bool sk,.vec f 2 (ws.map Wo.a),.str cm]],3,0,false,false⟩]) Q
theorem call13 {args:List AV} {d:AV} (h:wc M1 fi13 Try.f13 args d):Ev M1 (.pure 13 args) d []:=pcl _ _ (by kernel_rfl) h
theorem call14 {args:List AV} {d:AV} (h:wc M1 fi14 Try.f14 args d):Ev M1 (.pure 14 args) d []:=pcl _ _ (by kernel_rfl) h
theorem suK (sk f:Bool) (ws:List Wo) (cm:List UInt8)  (dq:AV) (H :
  (Sp.few6 ws.length) /\
  ((¬(Sp.hasW ws 77 98000 = true)) -> tu [vi 0,vi 0,vb false,vi 0] = dq) /\
  (¬(¬(Sp.hasW ws 77 98000 = true)) -> suKa_at (f) (ws) ([]) (0) (1) ((↑ws.length:Int)) (0) (true) (PureQ dq))) :
 suK_at sk f ws cm (PureQ dq):=by
 unfold suK_at
 obtain ⟨k1,H⟩:=H
 refine path_wp (G:=given kp13 [(1,1,.call (vb (Sp.hasW ws 77 98000)) none)] []) 5 [] ⟨(atC (cd Try.f13) [1,0,1]),[(1,AV.ptr 0 0 0 0),(16,vb !Sp.hasW ws 77 98000)],[⟨[ag [vb sk,AV.vec f 2 (List.map Wo.a ws),AV.str cm]],3,0,false,false⟩],_,[],_⟩ (by kernel_rfl) (bc rfl b0) q0 (ce (@ev40 (sk) (f) (ws) (cm) (77) (98000) k1) c0) ?_
 rcases xm (¬(Sp.hasW ws 77 98000 = true)) with d3 | d3
 ·have H:=H.1 d3
  exact path_re (G:=given kp13 [] []) 1000 [true] (asm:=[(!Sp.hasW ws 77 98000) == true]) (tu [vi 0,vi 0,vb false,vi 0]) (by kernel_rfl) (bc (beq_t ((i_not (i_var _)).2 d3)) b0) q0 c0 H
 ·have H:=H.2 d3
  have w4:(List.map Wo.a ws).length = ws.length:=List.length_map ..
  exact path_wp (G:=given kp13 [] []) 1000 [false] ⟨(atC (cd Try.f13) [1,1,1,1,0,1,0,0]),[(6,AV.mapr 1),(7,vi 0),(8,vi 1),(9,vb true),(19,AV.vec f 2 (List.map Wo.a ws)),(20,vi (↑(List.map Wo.a ws).length:Int)),(21,vi 0)],[⟨[ag [vb sk,AV.vec f 2 (List.map Wo.a ws),AV.str cm]],3,0,false,false⟩,⟨[],2,0,false,true⟩],[(!Sp.hasW ws 77 98000) == false,true],[],_⟩ (by kernel_rfl) (bc (beq_f (fun h => d3 ((i_not (i_var _)).1 h))) (bc rfl b0)) q0 c0 (by (try rw [w4]);all_goals exact wp_narrow [1] (by kernel_rfl) H)
noncomputable abbrev zSpD1 (ws:List Wo) (i:Int):=ag [AV.int IntKind.u8 (ws.getD i.toNat default).l,vi (ws.getD i.toNat default).v]
theorem suKa (f:Bool) (ws:List Wo) (ms:List AV) (p t n i:Int) (ok:Bool)  (dq:AV) (H :
  ((i < n) -> (0 <= i) /\
   (i.toNat < ws.length) /\
   (mapKeys IntKind.u8 ms = true) /\
   (mapIs IntKind.i64 ms = true) /\
   (-9223372036854775808 <= mapI (ws.getD i.toNat default).l ms + 1 /\ mapI (ws.getD i.toNat default).l ms + 1 <= 9223372036854775807) /\
   (Sp.okV (ws.getD i.toNat default).v) /\
   (((ws.getD i.toNat default).l = 80) -> (-9223372036854775808 <= i + 1 /\ i + 1 <= 9223372036854775807) /\
    suKa_at (f) (ws) (mapPut IntKind.u8 (ws.getD i.toNat default).l (vi (mapI (ws.getD i.toNat default).l ms + 1)) ms) (Sp.whV (ws.getD i.toNat default).v) (t) (n) (i + 1) (bif ok then Sp.whB (ws.getD i.toNat default).v else false) (PureQ dq)) /\
   (¬((ws.getD i.toNat default).l = 80) -> (((ws.getD i.toNat default).l = 76) -> (-9223372036854775808 <= i + 1 /\ i + 1 <= 9223372036854775807) /\
     suKa_at (f) (ws) (mapPut IntKind.u8 (ws.getD i.toNat default).l (vi (mapI (ws.getD i.toNat default).l ms + 1)) ms) (p) (Sp.whV (ws.getD i.toNat default).v) (n) (i + 1) (bif ok then Sp.whB (ws.getD i.toNat default).v else false) (PureQ dq)) /\
    (¬((ws.getD i.toNat default).l = 76) -> (((ws.getD i.toNat default).l = 77) -> (-9223372036854775808 <= i + 1 /\ i + 1 <= 9223372036854775807) /\
      suKa_at (f) (ws) (mapPut IntKind.u8 (ws.getD i.toNat default).l (vi (mapI (ws.getD i.toNat default).l ms + 1)) ms) (p) (t) (n) (i + 1) (ok) (PureQ dq)) /\
     (¬((ws.getD i.toNat default).l = 77) -> (((ws.getD i.toNat default).l = 78) -> (-9223372036854775808 <= i + 1 /\ i + 1 <= 9223372036854775807) /\
       suKa_at (f) (ws) (mapPut IntKind.u8 (ws.getD i.toNat default).l (vi (mapI (ws.getD i.toNat default).l ms + 1)) ms) (p) (t) (n) (i + 1) (ok) (PureQ dq)) /\
      (¬((ws.getD i.toNat default).l = 78) -> (-9223372036854775808 <= i + 1 /\ i + 1 <= 9223372036854775807) /\
       suKa_at (f) (ws) (mapPut IntKind.u8 (ws.getD i.toNat default).l (vi (mapI (ws.getD i.toNat default).l ms + 1)) ms) (p) (t) (n) (i + 1) (false) (PureQ dq)))))) /\
  (¬(i < n) -> ((¬(¬(ok = true))) -> (mapKeys IntKind.u8 ms = true)) /\
   ((¬(¬(ok = true))) -> (mapIs IntKind.i64 ms = true)) /\
   ((¬((¬(ok = true)) \/ (¬mapI 77 ms = 1))) -> (mapKeys IntKind.u8 ms = true)) /\
   ((¬((¬(ok = true)) \/ (¬mapI 77 ms = 1))) -> (mapIs IntKind.i64 ms = true)) /\
   ((¬(((¬(ok = true)) \/ (¬mapI 77 ms = 1)) \/ (¬mapI 80 ms = 1))) -> (mapKeys IntKind.u8 ms = true)) /\
   ((¬(((¬(ok = true)) \/ (¬mapI 77 ms = 1)) \/ (¬mapI 80 ms = 1))) -> (mapIs IntKind.i64 ms = true)) /\
   ((¬((((¬(ok = true)) \/ (¬mapI 77 ms = 1)) \/ (¬mapI 80 ms = 1)) \/ (mapI 76 ms > 1))) -> (mapKeys IntKind.u8 ms = true)) /\
   ((¬((((¬(ok = true)) \/ (¬mapI 77 ms = 1)) \/ (¬mapI 80 ms = 1)) \/ (mapI 76 ms > 1))) -> (mapIs IntKind.i64 ms = true)) /\
   ((((((¬(ok = true)) \/ (¬mapI 77 ms = 1)) \/ (¬mapI 80 ms = 1)) \/ (mapI 76 ms > 1)) \/ (mapI 78 ms > 1)) -> tu [vi 0,vi 0,vb false,vi 1] = dq) /\
   (¬(((((¬(ok = true)) \/ (¬mapI 77 ms = 1)) \/ (¬mapI 80 ms = 1)) \/ (mapI 76 ms > 1)) \/ (mapI 78 ms > 1)) -> tu [vi p,vi t,vb true,vi 0] = dq))) :
 suKa_at f ws ms p t n i ok (PureQ dq):=by
 unfold suKa_at
 rcases xm (i < n) with d2 | d2
 ·have H:=H.1 d2
  obtain ⟨k4,H⟩:=H
  have w5:(List.map Wo.a ws).length = ws.length:=List.length_map ..
  have i6:(decide (i.toNat < (List.map Wo.a ws).length)) = true ↔ (i.toNat < ws.length):=(by (try rw [w5]);all_goals exact i_dec)
  obtain ⟨k7,H⟩:=H
  obtain ⟨k9,H⟩:=H
  obtain ⟨k11,H⟩:=H
  obtain ⟨k13,H⟩:=H
  have w14:wi (mapI (ws.getD i.toNat default).l ms + 1) = mapI (ws.getD i.toNat default).l ms + 1:=wI64 k13
  obtain ⟨k15,H⟩:=H
  refine path_wp (G:=given kp13 [(7,1,.elem ((zSpD1 ws i))),(9,2,.call (tu [vi (Sp.whV (ws.getD i.toNat default).v),vb (Sp.whB (ws.getD i.toNat default).v)]) none)] []) 18 [true] ⟨(atC (cd Try.f13) [1,1,1,1,0,1,0,0,1,1,0,0,1,1,1,1,0,1]),[(6,AV.mapr 0),(7,vi p),(8,vi t),(9,vb ok),(12,vi (Sp.whV (ws.getD i.toNat default).v)),(13,vb (Sp.whB (ws.getD i.toNat default).v)),(19,AV.vec f 2 (List.map Wo.a ws)),(20,vi n),(21,vi i),(37,AV.int IntKind.u8 (ws.getD i.toNat default).l),(38,vb ((ws.getD i.toNat default).l == 80))],[⟨mapPut IntKind.u8 (ws.getD i.toNat default).l (vi (wi (mapI (ws.getD i.toNat default).l ms + 1))) ms,2,0,false,true⟩,⟨[(zSpD1 ws i)],2,0,false,false⟩],[(decide (i < n)) == true,decide (0 <= i),decide (i.toNat < (List.map Wo.a ws).length),true,true,mapKeys IntKind.u8 ms,mapIs IntKind.i64 ms,mapKeys IntKind.u8 ms,true,0 == 0],[((List.map Wo.a ws).get?Internal i.toNat = some ((zSpD1 ws i)))],_⟩ (by kernel_rfl) (bc (beq_t (i_dec.2 d2)) (bc (i_dec.2 k4) (bc (i6.2 k7) (bc rfl (bc rfl (bc ((i_var _).2 k9) (bc ((i_var _).2 k11) (bc ((i_var _).2 k9) (bc rfl (bc (beq_self_eq_true _) b0)))))))))) (qc (el_map k7) q0) (ce (@ev41 ((ws.getD i.toNat default).v) k15) c0) ?_
  rcases xm ((ws.getD i.toNat default).l = 80) with d17 | d17
  ·have H:=H.1 d17
   obtain ⟨k18,H⟩:=H
   have w19:wi (i + 1) = i + 1:=wI64 k18
   exact path_wp (G:=given kp13 [] []) 1000 [true] ⟨(atC (cd Try.f13) [1,1,1,1,0,1,0,0]),[(6,AV.mapr 0),(7,vi (Sp.whV (ws.getD i.toNat default).v)),(8,vi t),(9,vb (bif ok then Sp.whB (ws.getD i.toNat default).v else false)),(19,AV.vec f 2 (List.map Wo.a ws)),(20,vi n),(21,vi (wi (i + 1)))],[⟨mapPut IntKind.u8 (ws.getD i.toNat default).l (vi (wi (mapI (ws.getD i.toNat default).l ms + 1))) ms,2,0,false,true⟩,⟨[(zSpD1 ws i)],2,0,false,false⟩],_,[],_⟩ (by kernel_rfl) (bc (beq_t (i_eq.2 d17)) b0) q0 c0 (by (try rw [w14]);(try rw [w19]);all_goals exact wp_narrow [0] (by kernel_rfl) H)
  ·have H:=H.2 d17
   rcases xm ((ws.getD i.toNat default).l = 76) with d21 | d21
   ·have H:=H.1 d21
    obtain ⟨k22,H⟩:=H
    have w23:wi (i + 1) = i + 1:=wI64 k22
    exact path_wp (G:=given kp13 [] []) 1000 [false,true] ⟨(atC (cd Try.f13) [1,1,1,1,0,1,0,0]),[(6,AV.mapr 0),(7,vi p),(8,vi (Sp.whV (ws.getD i.toNat default).v)),(9,vb (bif ok then Sp.whB (ws.getD i.toNat default).v else false)),(19,AV.vec f 2 (List.map Wo.a ws)),(20,vi n),(21,vi (wi (i + 1)))],[⟨mapPut IntKind.u8 (ws.getD i.toNat default).l (vi (wi (mapI (ws.getD i.toNat default).l ms + 1))) ms,2,0,false,true⟩,⟨[(zSpD1 ws i)],2,0,false,false⟩],_,[],_⟩ (by kernel_rfl) (bc (beq_f (fun h => d17 (i_eq.1 h))) (bc (beq_t (i_eq.2 d21)) b0)) q0 c0 (by (try rw [w14]);(try rw [w23]);all_goals exact wp_narrow [0] (by kernel_rfl) H)
   ·have H:=H.2 d21
    rcases xm ((ws.getD i.toNat default).l = 77) with d25 | d25
    ·have H:=H.1 d25
     obtain ⟨k27,H⟩:=H
     have w28:wi (i + 1) = i + 1:=wI64 k27
     exact path_wp (G:=given kp13 [] []) 1000 [false,false,true,true] ⟨(atC (cd Try.f13) [1,1,1,1,0,1,0,0]),[(6,AV.mapr 0),(7,vi p),(8,vi t),(9,vb ok),(19,AV.vec f 2 (List.map Wo.a ws)),(20,vi n),(21,vi (wi (i + 1)))],[⟨mapPut IntKind.u8 (ws.getD i.toNat default).l (vi (wi (mapI (ws.getD i.toNat default).l ms + 1))) ms,2,0,false,true⟩,⟨[(zSpD1 ws i)],2,0,false,false⟩],_,[],_⟩ (by kernel_rfl) (bc (beq_f (fun h => d17 (i_eq.1 h))) (bc (beq_f (fun h => d21 (i_eq.1 h))) (bc (beq_t (i_eq.2 d25)) (bc (beq_t (i_eq.2 d25)) b0)))) q0 c0 (by (try rw [w14]);(try rw [w28]);all_goals exact wp_narrow [0] (by kernel_rfl) H)
    ·have H:=H.2 d25
     rcases xm ((ws.getD i.toNat default).l = 78) with d30 | d30
     ·have H:=H.1 d30
      obtain ⟨k31,H⟩:=H
      have w32:wi (i + 1) = i + 1:=wI64 k31
      exact path_wp (G:=given kp13 [] []) 1000 [false,false,false,true] ⟨(atC (cd Try.f13) [1,1,1,1,0,1,0,0]),[(6,AV.mapr 0),(7,vi p),(8,vi t),(9,vb ok),(19,AV.vec f 2 (List.map Wo.a ws)),(20,vi n),(21,vi (wi (i + 1)))],[⟨mapPut IntKind.u8 (ws.getD i.toNat default).l (vi (wi (mapI (ws.getD i.toNat default).l ms + 1))) ms,2,0,false,true⟩,⟨[(zSpD1 ws i)],2,0,false,false⟩],_,[],_⟩ (by kernel_rfl) (bc (beq_f (fun h => d17 (i_eq.1 h))) (bc (beq_f (fun h => d21 (i_eq.1 h))) (bc (beq_f (fun h => d25 (i_eq.1 h))) (bc (beq_t (i_eq.2 d30)) b0)))) q0 c0 (by (try rw [w14]);(try rw [w32]);all_goals exact wp_narrow [0] (by kernel_rfl) H)
     ·have H:=H.2 d30
      obtain ⟨k33,H⟩:=H
      have w34:wi (i + 1) = i + 1:=wI64 k33
      exact path_wp (G:=given kp13 [] []) 1000 [false,false,false,false] ⟨(atC (cd Try.f13) [1,1,1,1,0,1,0,0]),[(6,AV.mapr 0),(7,vi p),(8,vi t),(9,vb false),(19,AV.vec f 2 (List.map Wo.a ws)),(20,vi n),(21,vi (wi (i + 1)))],[⟨mapPut IntKind.u8 (ws.getD i.toNat default).l (vi (wi (mapI (ws.getD i.toNat default).l ms + 1))) ms,2,0,false,true⟩,⟨[(zSpD1 ws i)],2,0,false,false⟩],_,[],_⟩ (by kernel_rfl) (bc (beq_f (fun h => d17 (i_eq.1 h))) (bc (beq_f (fun h => d21 (i_eq.1 h))) (bc (beq_f (fun h => d25 (i_eq.1 h))) (bc (beq_f (fun h => d30 (i_eq.1 h))) b0)))) q0 c0 (by (try rw [w14]);(try rw [w34]);all_goals exact wp_narrow [0] (by kernel_rfl) H)
 ·have H:=H.2 d2
  obtain ⟨k36,H⟩:=H
  obtain ⟨k38,H⟩:=H
  obtain ⟨k40,H⟩:=H
  obtain ⟨k42,H⟩:=H
  obtain ⟨k44,H⟩:=H
  obtain ⟨k46,H⟩:=H
  obtain ⟨k48,H⟩:=H
  obtain ⟨k50,H⟩:=H
  rcases xm (((((¬(ok = true)) \/ (¬mapI 77 ms = 1)) \/ (¬mapI 80 ms = 1)) \/ (mapI 76 ms > 1)) \/ (mapI 78 ms > 1)) with d52 | d52
  ·have H:=H.1 d52
   exact path_re (G:=given kp13 [] []) 1000 [false,true] (asm:=[(decide (i < n)) == false,!((!ok) == false && true) || mapKeys IntKind.u8 ms,!((!ok) == false && true) || mapIs IntKind.i64 ms,!((bif !ok then true else mapI 77 ms != 1) == false && true) || mapKeys IntKind.u8 ms,!((bif !ok then true else mapI 77 ms != 1) == false && true) || mapIs IntKind.i64 ms,!((bif bif !ok then true else mapI 77 ms != 1 then true else mapI 80 ms != 1) == false && true) || mapKeys IntKind.u8 ms,!((bif bif !ok then true else mapI 77 ms != 1 then true else mapI 80 ms != 1) == false && true) || mapIs IntKind.i64 ms,!((bif bif bif !ok then true else mapI 77 ms != 1 then true else mapI 80 ms != 1 then true else decide (mapI 76 ms > 1)) == false && true) || mapKeys IntKind.u8 ms,!((bif bif bif !ok then true else mapI 77 ms != 1 then true else mapI 80 ms != 1 then true else decide (mapI 76 ms > 1)) == false && true) || mapIs IntKind.i64 ms,(bif bif bif bif !ok then true else mapI 77 ms != 1 then true else mapI 80 ms != 1 then true else decide (mapI 76 ms > 1) then true else decide (mapI 78 ms > 1)) == true]) (tu [vi 0,vi 0,vb false,vi 1]) (by kernel_rfl) (bc (beq_f (fun h => d2 (i_dec.1 h))) (bc ((i_imp (i_at (i_bf (i_not (i_var _)))) (i_var _)).2 k36) (bc ((i_imp (i_at (i_bf (i_not (i_var _)))) (i_var _)).2 k38) (bc ((i_imp (i_at (i_bf (i_bor (i_not (i_var _)) i_ne))) (i_var _)).2 k40) (bc ((i_imp (i_at (i_bf (i_bor (i_not (i_var _)) i_ne))) (i_var _)).2 k42) (bc ((i_imp (i_at (i_bf (i_bor (i_bor (i_not (i_var _)) i_ne) i_ne))) (i_var _)).2 k44) (bc ((i_imp (i_at (i_bf (i_bor (i_bor (i_not (i_var _)) i_ne) i_ne))) (i_var _)).2 k46) (bc ((i_imp (i_at (i_bf (i_bor (i_bor (i_bor (i_not (i_var _)) i_ne) i_ne) i_dec))) (i_var _)).2 k48) (bc ((i_imp (i_at (i_bf (i_bor (i_bor (i_bor (i_not (i_var _)) i_ne) i_ne) i_dec))) (i_var _)).2 k50) (bc (beq_t ((i_bor (i_bor (i_bor (i_bor (i_not (i_var _)) i_ne) i_ne) i_dec) i_dec).2 d52)) b0)))))))))) q0 c0 H
  ·have H:=H.2 d52
   exact path_re (G:=given kp13 [] []) 1000 [false,false] (asm:=[(decide (i < n)) == false,!((!ok) == false && true) || mapKeys IntKind.u8 ms,!((!ok) == false && true) || mapIs IntKind.i64 ms,!((bif !ok then true else mapI 77 ms != 1) == false && true) || mapKeys IntKind.u8 ms,!((bif !ok then true else mapI 77 ms != 1) == false && true) || mapIs IntKind.i64 ms,!((bif bif !ok then true else mapI 77 ms != 1 then true else mapI 80 ms != 1) == false && true) || mapKeys IntKind.u8 ms,!((bif bif !ok then true else mapI 77 ms != 1 then true else mapI 80 ms != 1) == false && true) || mapIs IntKind.i64 ms,!((bif bif bif !ok then true else mapI 77 ms != 1 then true else mapI 80 ms != 1 then true else decide (mapI 76 ms > 1)) == false && true) || mapKeys IntKind.u8 ms,!((bif bif bif !ok then true else mapI 77 ms != 1 then true else mapI 80 ms != 1 then true else decide (mapI 76 ms > 1)) == false && true) || mapIs IntKind.i64 ms,(bif bif bif bif !ok then true else mapI 77 ms != 1 then true else mapI 80 ms != 1 then true else decide (mapI 76 ms > 1) then true else decide (mapI 78 ms > 1)) == false]) (tu [vi p,vi t,vb true,vi 0]) (by kernel_rfl) (bc (beq_f (fun h => d2 (i_dec.1 h))) (bc ((i_imp (i_at (i_bf (i_not (i_var _)))) (i_var _)).2 k36) (bc ((i_imp (i_at (i_bf (i_not (i_var _)))) (i_var _)).2 k38) (bc ((i_imp (i_at (i_bf (i_bor (i_not (i_var _)) i_ne))) (i_var _)).2 k40) (bc ((i_imp (i_at (i_bf (i_bor (i_not (i_var _)) i_ne))) (i_var _)).2 k42) (bc ((i_imp (i_at (i_bf (i_bor (i_bor (i_not (i_var _)) i_ne) i_ne))) (i_var _)).2 k44) (bc ((i_imp (i_at (i_bf (i_bor (i_bor (i_not (i_var _)) i_ne) i_ne))) (i_var _)).2 k46) (bc ((i_imp (i_at (i_bf (i_bor (i_bor (i_bor (i_not (i_var _)) i_ne) i_ne) i_dec))) (i_var _)).2 k48) (bc ((i_imp (i_at (i_bf (i_bor (i_bor (i_bor (i_not (i_var _)) i_ne) i_ne) i_dec))) (i_var _)).2 k50) (bc (beq_f (fun h => d52 ((i_bor (i_bor (i_bor (i_bor (i_not (i_var _)) i_ne) i_ne) i_dec) i_dec).1 h))) b0)))))))))) q0 c0 H
theorem suR (sk f:Bool) (ws:List Wo) (cm:List UInt8)  (dq:AV) (H :
  (Sp.few6 ws.length) /\
  ((¬(Sp.hasW ws 77 98000 = true)) -> tu [vi 0,vi 0,vb false,vi 0] = dq) /\
  (¬(¬(Sp.hasW ws 77 98000 = true)) -> suRa_at (sk) (f) (ws) (cm) (0) (1) (0) (0) (0) (0) (0) (PureQ dq))) :
 suR_at sk f ws cm (PureQ dq):=by
 unfold suR_at
 obtain ⟨k1,H⟩:=H
 refine path_wp (G:=given kp14 [(1,1,.call (vb (Sp.hasW ws 77 98000)) none)] []) 5 [] ⟨(atC (cd Try.f14) [1,0,1]),[(1,AV.ptr 0 0 0 0),(16,vb !Sp.hasW ws 77 98000)],[⟨[ag [vb sk,AV.vec f 2 (List.map Wo.a ws),AV.str cm]],3,0,false,false⟩],_,[],_⟩ (by kernel_rfl) (bc rfl b0) q0 (ce (@ev42 (sk) (f) (ws) (cm) (77) (98000) k1) c0) ?_
 rcases xm (¬(Sp.hasW ws 77 98000 = true)) with d3 | d3
 ·have H:=H.1 d3
  exact path_re (G:=given kp14 [] []) 1000 [true] (asm:=[(!Sp.hasW ws 77 98000) == true]) (tu [vi 0,vi 0,vb false,vi 0]) (by kernel_rfl) (bc (beq_t ((i_not (i_var _)).2 d3)) b0) q0 c0 H
 ·have H:=H.2 d3
  exact path_wp (G:=given kp14 [] []) 1000 [false] ⟨(atC (cd Try.f14) [1,1,1,0,1,0,0]),[(1,AV.ptr 0 0 0 0),(6,vi 0),(7,vi 1),(8,vi 0),(9,vi 0),(10,vi 0),(11,vi 0),(12,vi 0)],[⟨[ag [vb sk,AV.vec f 2 (List.map Wo.a ws),AV.str cm]],3,0,false,false⟩],[(!Sp.hasW ws 77 98000) == false],[],_⟩ (by kernel_rfl) (bc (beq_f (fun h => d3 ((i_not (i_var _)).1 h))) b0) q0 c0 (H)
noncomputable abbrev zSpD2 (ws:List Wo) (i:Int):=ag [AV.int IntKind.u8 (ws.getD i.toNat default).l,vi (ws.getD i.toNat default).v]
theorem suRa (sk f:Bool) (ws:List Wo) (cm:List UInt8) (a t p l m n i:Int)  (dq:AV) (H :
  ((i < (↑ws.length:Int)) -> (0 <= i) /\
   (i.toNat < ws.length) /\
   (((ws.getD i.toNat default).l = 77) -> (-9223372036854775808 <= m + 1 /\ m + 1 <= 9223372036854775807) /\
    (-9223372036854775808 <= i + 1 /\ i + 1 <= 9223372036854775807) /\
    suRa_at (sk) (f) (ws) (cm) (a) (t) (p) (l) (m + 1) (n) (i + 1) (PureQ dq)) /\
   (¬((ws.getD i.toNat default).l = 77) -> (((ws.getD i.toNat default).l = 80) -> (-9223372036854775808 <= p + 1 /\ p + 1 <= 9223372036854775807) /\
     (Sp.okV (ws.getD i.toNat default).v) /\
     (-9223372036854775808 <= i + 1 /\ i + 1 <= 9223372036854775807) /\
     suRa_at (sk) (f) (ws) (cm) (Sp.whR (ws.getD i.toNat default).v) (t) (p + 1) (l) (m) (n) (i + 1) (PureQ dq)) /\
    (¬((ws.getD i.toNat default).l = 80) -> (((ws.getD i.toNat default).l = 76) -> (-9223372036854775808 <= l + 1 /\ l + 1 <= 9223372036854775807) /\
      (Sp.okV (ws.getD i.toNat default).v) /\
      (-9223372036854775808 <= i + 1 /\ i + 1 <= 9223372036854775807) /\
      suRa_at (sk) (f) (ws) (cm) (a) (Sp.whR (ws.getD i.toNat default).v) (p) (l + 1) (m) (n) (i + 1) (PureQ dq)) /\
     (¬((ws.getD i.toNat default).l = 76) -> (((ws.getD i.toNat default).l = 78) -> (-9223372036854775808 <= n + 1 /\ n + 1 <= 9223372036854775807) /\
       (-9223372036854775808 <= i + 1 /\ i + 1 <= 9223372036854775807) /\
       suRa_at (sk) (f) (ws) (cm) (a) (t) (p) (l) (m) (n + 1) (i + 1) (PureQ dq)) /\
      (¬((ws.getD i.toNat default).l = 78) -> tu [vi 0,vi 0,vb false,vi 1] = dq))))) /\
  (¬(i < (↑ws.length:Int)) -> (((((((¬m = 1) \/ (¬p = 1)) \/ (l > 1)) \/ (n > 1)) \/ (a = 0)) \/ (t = 0)) -> tu [vi 0,vi 0,vb false,vi 1] = dq) /\
   (¬((((((¬m = 1) \/ (¬p = 1)) \/ (l > 1)) \/ (n > 1)) \/ (a = 0)) \/ (t = 0)) -> tu [vi a,vi t,vb true,vi 0] = dq))) :
 suRa_at sk f ws cm a t p l m n i (PureQ dq):=by
 unfold suRa_at
 have w1:(List.map Wo.a ws).length = ws.length:=List.length_map ..
 have i2:(decide (i < (↑(List.map Wo.a ws).length:Int))) = true ↔ (i < (↑ws.length:Int)):=(by (try rw [w1]);all_goals exact i_dec)
 rcases xm (i < (↑ws.length:Int)) with d3 | d3
 ·have H:=H.1 d3
  obtain ⟨k5,H⟩:=H
  have i6:(decide (i.toNat < (List.map Wo.a ws).length)) = true ↔ (i.toNat < ws.length):=(by (try rw [w1]);all_goals exact i_dec)
  obtain ⟨k7,H⟩:=H
  refine path_wp (G:=given kp14 [(7,4,.elem ((zSpD2 ws i)))] []) 14 [true] ⟨(atC (cd Try.f14) [1,1,1,0,1,0,0,1,0,0,1,1,0,1]),[(1,AV.ptr 0 0 0 0),(6,vi a),(7,vi t),(8,vi p),(9,vi l),(10,vi m),(11,vi n),(12,vi i),(13,AV.ptr 1 0 0 0),(30,AV.int IntKind.u8 (ws.getD i.toNat default).l),(31,vb ((ws.getD i.toNat default).l == 77))],[⟨[ag [vb sk,AV.vec f 2 (List.map Wo.a ws),AV.str cm]],3,0,false,false⟩,⟨[(zSpD2 ws i)],2,0,false,false⟩],[true,(decide (i < (↑(List.map Wo.a ws).length:Int))) == true,true,decide (0 <= i),decide (i.toNat < (List.map Wo.a ws).length),true,0 == 0],[((List.map Wo.a ws).get?Internal i.toNat = some ((zSpD2 ws i)))],_⟩ (by kernel_rfl) (bc rfl (bc (beq_t (i2.2 d3)) (bc rfl (bc (i_dec.2 k5) (bc (i6.2 k7) (bc rfl (bc (beq_self_eq_true _) b0))))))) (qc (el_map k7) q0) c0 ?_
  rcases xm ((ws.getD i.toNat default).l = 77) with d9 | d9
  ·have H:=H.1 d9
   obtain ⟨k10,H⟩:=H
   have w11:wi (m + 1) = m + 1:=wI64 k10
   obtain ⟨k12,H⟩:=H
   have w13:wi (i + 1) = i + 1:=wI64 k12
   exact path_wp (G:=given kp14 [] []) 1000 [true] ⟨(atC (cd Try.f14) [1,1,1,0,1,0,0]),[(1,AV.ptr 0 0 0 0),(6,vi a),(7,vi t),(8,vi p),(9,vi l),(10,vi (wi (m + 1))),(11,vi n),(12,vi (wi (i + 1)))],[⟨[ag [vb sk,AV.vec f 2 (List.map Wo.a ws),AV.str cm]],3,0,false,false⟩,⟨[(zSpD2 ws i)],2,0,false,false⟩],_,[],_⟩ (by kernel_rfl) (bc (beq_t (i_eq.2 d9)) b0) q0 c0 (by (try rw [w11]);(try rw [w13]);all_goals exact wp_narrow [0] (by kernel_rfl) H)
  ·have H:=H.2 d9
   rcases xm ((ws.getD i.toNat default).l = 80) with d15 | d15
   ·have H:=H.1 d15
    obtain ⟨k16,H⟩:=H
    have w17:wi (p + 1) = p + 1:=wI64 k16
    obtain ⟨k18,H⟩:=H
    obtain ⟨k19,H⟩:=H
    have w20:wi (i + 1) = i + 1:=wI64 k19
    exact path_wp (G:=given kp14 [(14,2,.call (vi (Sp.whR (ws.getD i.toNat default).v)) none)] []) 1000 [false,true] ⟨(atC (cd Try.f14) [1,1,1,0,1,0,0]),[(1,AV.ptr 0 0 0 0),(6,vi (Sp.whR (ws.getD i.toNat default).v)),(7,vi t),(8,vi (wi (p + 1))),(9,vi l),(10,vi m),(11,vi n),(12,vi (wi (i + 1)))],[⟨[ag [vb sk,AV.vec f 2 (List.map Wo.a ws),AV.str cm]],3,0,false,false⟩,⟨[(zSpD2 ws i)],2,0,false,false⟩],_,[],_⟩ (by kernel_rfl) (bc (beq_f (fun h => d9 (i_eq.1 h))) (bc (beq_t (i_eq.2 d15)) (bc rfl b0))) q0 (ce (@ev43 ((ws.getD i.toNat default).v) k18) c0) (by (try rw [w17]);(try rw [w20]);all_goals exact wp_narrow [0] (by kernel_rfl) H)
   ·have H:=H.2 d15
    rcases xm ((ws.getD i.toNat default).l = 76) with d22 | d22
    ·have H:=H.1 d22
     obtain ⟨k23,H⟩:=H
     have w24:wi (l + 1) = l + 1:=wI64 k23
     obtain ⟨k25,H⟩:=H
     obtain ⟨k26,H⟩:=H
     have w27:wi (i + 1) = i + 1:=wI64 k26
     exact path_wp (G:=given kp14 [(17,2,.call (vi (Sp.whR (ws.getD i.toNat default).v)) none)] []) 1000 [false,false,true] ⟨(atC (cd Try.f14) [1,1,1,0,1,0,0]),[(1,AV.ptr 0 0 0 0),(6,vi a),(7,vi (Sp.whR (ws.getD i.toNat default).v)),(8,vi p),(9,vi (wi (l + 1))),(10,vi m),(11,vi n),(12,vi (wi (i + 1)))],[⟨[ag [vb sk,AV.vec f 2 (List.map Wo.a ws),AV.str cm]],3,0,false,false⟩,⟨[(zSpD2 ws i)],2,0,false,false⟩],_,[],_⟩ (by kernel_rfl) (bc (beq_f (fun h => d9 (i_eq.1 h))) (bc (beq_f (fun h => d15 (i_eq.1 h))) (bc (beq_t (i_eq.2 d22)) (bc rfl b0)))) q0 (ce (@ev43 ((ws.getD i.toNat default).v) k25) c0) (by (try rw [w24]);(try rw [w27]);all_goals exact wp_narrow [0] (by kernel_rfl) H)
    ·have H:=H.2 d22
     rcases xm ((ws.getD i.toNat default).l = 78) with d29 | d29
     ·have H:=H.1 d29
      obtain ⟨k30,H⟩:=H
      have w31:wi (n + 1) = n + 1:=wI64 k30
      obtain ⟨k32,H⟩:=H
      have w33:wi (i + 1) = i + 1:=wI64 k32
      exact path_wp (G:=given kp14 [] []) 1000 [false,false,false,true] ⟨(atC (cd Try.f14) [1,1,1,0,1,0,0]),[(1,AV.ptr 0 0 0 0),(6,vi a),(7,vi t),(8,vi p),(9,vi l),(10,vi m),(11,vi (wi (n + 1))),(12,vi (wi (i + 1)))],[⟨[ag [vb sk,AV.vec f 2 (List.map Wo.a ws),AV.str cm]],3,0,false,false⟩,⟨[(zSpD2 ws i)],2,0,false,false⟩],_,[],_⟩ (by kernel_rfl) (bc (beq_f (fun h => d9 (i_eq.1 h))) (bc (beq_f (fun h => d15 (i_eq.1 h))) (bc (beq_f (fun h => d22 (i_eq.1 h))) (bc (beq_t (i_eq.2 d29)) b0)))) q0 c0 (by (try rw [w31]);(try rw [w33]);all_goals exact wp_narrow [0] (by kernel_rfl) H)
     ·have H:=H.2 d29
      exact path_re (G:=given kp14 [] []) 1000 [false,false,false,false] (tu [vi 0,vi 0,vb false,vi 1]) (by kernel_rfl) (bc (beq_f (fun h => d9 (i_eq.1 h))) (bc (beq_f (fun h => d15 (i_eq.1 h))) (bc (beq_f (fun h => d22 (i_eq.1 h))) (bc (beq_f (fun h => d29 (i_eq.1 h))) b0)))) q0 c0 H
 ·have H:=H.2 d3
  rcases xm ((((((¬m = 1) \/ (¬p = 1)) \/ (l > 1)) \/ (n > 1)) \/ (a = 0)) \/ (t = 0)) with d35 | d35
  ·have H:=H.1 d35
   exact path_re (G:=given kp14 [] []) 1000 [false,true] (tu [vi 0,vi 0,vb false,vi 1]) (by kernel_rfl) (bc rfl (bc (beq_f (fun h => d3 (i2.1 h))) (bc (beq_t ((i_bor (i_bor (i_bor (i_bor (i_bor i_ne i_ne) i_dec) i_dec) i_eq) i_eq).2 d35)) b0))) q0 c0 H
  ·have H:=H.2 d35
   exact path_re (G:=given kp14 [] []) 1000 [false,false] (tu [vi a,vi t,vb true,vi 0]) (by kernel_rfl) (bc rfl (bc (beq_f (fun h => d3 (i2.1 h))) (bc (beq_f (fun h => d35 ((i_bor (i_bor (i_bor (i_bor (i_bor i_ne i_ne) i_dec) i_dec) i_eq) i_eq).1 h))) b0))) q0 c0 H
end Go.Av

namespace Go.Av
open Go.Proofs
namespace Sp
def cnt (ws:List Wo) (c:Int):Int:=(codes ws c).length
def lastD (l:List Int) (d:Int):Int:=l.foldl (fun _ x => x) d
def lp (ws:List Wo):Int:=whV (lastD (codes ws 80) 0)
def lt (ws:List Wo):Int:=whV (lastD (codes ws 76) 1000)
def okL (w:Wo):Bool:=if w.l = 80 \/ w.l = 76 then whB w.v else decide (w.l = 77 \/ w.l = 78)
def okC (ws:List Wo):Bool:=ws.all okL && decide (cnt ws 77 = 1 /\ cnt ws 80 = 1 /\ cnt ws 76 <= 1 /\ cnt ws 78 <= 1)
def cIs (ws:List Wo):Bool:=hasW ws 77 98000 && okC ws
def cN (ws:List Wo):Int:=if cIs ws = true then lp ws else 0
def cT (ws:List Wo):Int:=if cIs ws = true then lt ws else 0
def cE (ws:List Wo):Int:=if (hasW ws 77 98000 && !okC ws) = true then 1 else 0
def okW (ws:List Wo):Prop:=ws.length <= 1000000 /\ ∀ w ∈ ws,okV w.v
end Sp
theorem codes_snoc (pre:List Wo) (w:Wo) (c:Int):Sp.codes (pre ++ [w]) c = if w.l = c then Sp.codes pre c ++ [w.v] else Sp.codes pre c:=by
 unfold Sp.codes
 rw [List.filter_append,List.map_append]
 by_cases h:w.l = c
 ·rw [List.filter_cons_of_pos (by simpa using h),if_pos h];rfl
 ·rw [List.filter_cons_of_neg (by simpa using h),if_neg h];simp
theorem last_snoc (l:List Int) (x d:Int):Sp.lastD (l ++ [x]) d = x:=by unfold Sp.lastD;rw [List.foldl_append];rfl
theorem cnt_snoc (pre:List Wo) (w:Wo) (c:Int):Sp.cnt (pre ++ [w]) c = if w.l = c then Sp.cnt pre c + 1 else Sp.cnt pre c:=by
 unfold Sp.cnt
 rw [codes_snoc]
 split
 ·simp
 ·rfl
theorem lp_snoc (pre:List Wo) (w:Wo):Sp.lp (pre ++ [w]) = if w.l = 80 then Sp.whV w.v else Sp.lp pre:=by
 unfold Sp.lp
 rw [codes_snoc]
 split
 ·rw [last_snoc]
 ·rfl
theorem lt_snoc (pre:List Wo) (w:Wo):Sp.lt (pre ++ [w]) = if w.l = 76 then Sp.whV w.v else Sp.lt pre:=by
 unfold Sp.lt
 rw [codes_snoc]
 split
 ·rw [last_snoc]
 ·rfl
theorem cnt_le (ws:List Wo) (c:Int):0 <= Sp.cnt ws c /\ Sp.cnt ws c <= ws.length:=by
 have:=codes_len ws c
 unfold Sp.cnt
 omega
theorem takeW {ws:List Wo} {i:Nat} (h:i < ws.length):ws.take (i + 1) = ws.take i ++ [ws.getD i default]:=by
 rw [List.take_succ_eq_append_getElem h,List.getD_eq_getElem?_getD,List.getElem?_eq_getElem h];rfl
theorem all_take {ws:List Wo} {i:Nat} (h:i < ws.length):(ws.take (i + 1)).all Sp.okL = ((ws.take i).all Sp.okL && Sp.okL (ws.getD i default)):=by
 rw [takeW h,List.all_append];simp
def NumM (ms:List AV):Prop:=mapKeys .u8 ms = true /\ mapIs .i64 ms = true
theorem numM_put {n x:Int}:∀ {ms:List AV},NumM ms -> NumM (mapPut .u8 n (.int .i64 x) ms) /\ ∀ c,mapI c (mapPut .u8 n (.int .i64 x) ms) = if c = n then x else mapI c ms
 | [],_ => ⟨⟨by simp [mapPut,mapKeys],by simp [mapPut,mapIs]⟩,fun c => by
   simp only [mapPut,mapI]
   by_cases h:c = n
   ·subst h;simp
   ·rw [if_neg h,show (c == n) = false by simpa using h];rfl⟩
 | y :: l,h => by
  obtain ⟨h1,h2⟩:=h
  unfold mapIs at h2
  split at h2
  ·rename_i e;cases e
  ·rename_i k' m j b l' e
   simp only [List.cons.injEq] at e
   obtain ⟨rfl,rfl⟩:=e
   simp only [mapKeys,Bool.and_eq_true,decide_eq_true_eq] at h1
   obtain ⟨rfl,h1⟩:=h1
   simp only [Bool.and_eq_true,decide_eq_true_eq] at h2
   obtain ⟨rfl,h2⟩:=h2
   simp only [mapPut]
   by_cases hn:n = m
   ·subst hn
    simp only [beq_self_eq_true,cond_true]
    refine ⟨⟨by simp [mapKeys,h1],by simp [mapIs,h2]⟩,fun c => ?_⟩
    simp only [mapI]
    by_cases h:c = n
    ·subst h;simp
    ·rw [if_neg h,show (c == n) = false by simpa using h];rfl
   ·have e:(n == m) = false:=by simpa using hn
    rw [e,cond_false]
    obtain ⟨⟨q1,q2⟩,q3⟩:=numM_put (n:=n) (x:=x) ⟨h1,h2⟩
    refine ⟨⟨by simp [mapKeys,q1],by simp [mapIs,q2]⟩,fun c => ?_⟩
    simp only [mapI]
    by_cases h:c = m
    ·subst h
     have:(c == c) = true:=by simp
     rw [this,cond_true,cond_true,if_neg (fun e => hn e.symm)]
    ·have:(c == m) = false:=by simpa using h
     rw [this,cond_false,cond_false,q3]
  ·cases h2
theorem whV_0:Sp.whV 0 = 0:=by decide
theorem whV_1:Sp.whV 1000 = 1:=by decide
theorem okV_at {ws:List Wo} (h:Sp.okW ws) {i:Nat} (hi:i < ws.length):Sp.okV (ws.getD i default).v:=h.2 _ (getD_mem hi)
theorem suKa_loop {f:Bool} {ws:List Wo} {dq:AV} (hl:Sp.okW ws) (hq:AV.tup [.int .i64 (if Sp.okC ws = true then Sp.lp ws else 0),.int .i64 (if Sp.okC ws = true then Sp.lt ws else 0),.bool (Sp.okC ws),.int .i64 (if Sp.okC ws = true then 0 else 1)] = dq) :
  ∀ (k i:Nat) (ms:List AV),i + k = ws.length -> NumM ms -> (∀ c,mapI c ms = Sp.cnt (ws.take i) c) -> suKa_at f ws ms (Sp.lp (ws.take i)) (Sp.lt (ws.take i)) ws.length i ((ws.take i).all Sp.okL) (PureQ dq):=by
 have hlen:=hl.1
 intro k
 induction k with
 | zero =>
  intro i ms hi hm hc
  rw [List.take_of_length_le (show ws.length <= i by omega)] at hc ⊢
  have e:Sp.okC ws = (ws.all Sp.okL && decide (Sp.cnt ws 77 = 1 /\ Sp.cnt ws 80 = 1 /\ Sp.cnt ws 76 <= 1 /\ Sp.cnt ws 78 <= 1)):=rfl
  refine suKa _ _ _ _ _ _ _ _ _ ⟨fun h => by omega,fun _ => ⟨fun _ => hm.1,fun _ => hm.2,fun _ => hm.1,fun _ => hm.2,fun _ => hm.1,fun _ => hm.2,fun _ => hm.1,fun _ => hm.2,fun h => ?_,fun h => ?_⟩⟩
  ·simp only [hc] at h
   have hn:Sp.okC ws = false:=by
    cases ha:ws.all Sp.okL with
    | false => rw [e,ha,Bool.false_and]
    | true => rw [e,ha,Bool.true_and];rw [ha] at h;exact decide_eq_false (by simp at h;omega)
   rw [hn] at hq
   exact hq
  ·simp only [hc] at h
   have hn:Sp.okC ws = true:=by
    cases ha:ws.all Sp.okL with
    | false => rw [ha] at h;simp at h
    | true => rw [e,ha,Bool.true_and];rw [ha] at h;exact decide_eq_true (by simp at h;omega)
   rw [hn] at hq
   exact hq
 | succ k ih =>
  intro i ms hi hm hc
  have hil:i < ws.length:=by omega
  have hv:=okV_at hl hil
  have ha:=all_take hil
  have hp:=lp_snoc (ws.take i) (ws.getD i default)
  have ht:=lt_snoc (ws.take i) (ws.getD i default)
  have hn:∀ c,Sp.cnt (ws.take (i + 1)) c = if (ws.getD i default).l = c then Sp.cnt (ws.take i) c + 1 else Sp.cnt (ws.take i) c:=fun c => by rw [takeW hil,cnt_snoc]
  rw [<- takeW hil] at hp ht
  refine suKa _ _ _ _ _ _ _ _ _ ⟨fun _ => ?_,fun h => by omega⟩
  rw [Int.toNat_natCast]
  generalize ws.getD i default = w at hv ha hp ht hn ⊢
  obtain ⟨n1,n2⟩:=numM_put (n:=w.l) (x:=mapI w.l ms + 1) hm
  have hc':∀ c,mapI c (mapPut .u8 w.l (.int .i64 (mapI w.l ms + 1)) ms) = Sp.cnt (ws.take (i + 1)) c:=by
   intro c
   rw [n2,hn]
   by_cases h:c = w.l
   ·subst h;rw [if_pos rfl,if_pos rfl,hc]
   ·rw [if_neg h,if_neg (fun e => h e.symm),hc]
  have cb:=cnt_le (ws.take i) w.l
  have cl:(ws.take i).length <= ws.length:=by rw [List.length_take];omega
  have next:=ih (i + 1) _ (by omega) n1 hc'
  rw [hp,ht,ha] at next
  have eb:∀ a b:Bool,(bif a then b else false) = (a && b):=fun a b => by cases a <;> rfl
  refine ⟨by omega,by omega,hm.1,hm.2,by rw [hc];omega,hv,fun h => ⟨by omega,?_⟩,fun h1 => ⟨fun h => ⟨by omega,?_⟩,fun h2 => ⟨fun h => ⟨by omega,?_⟩,fun h3 => ⟨fun h => ⟨by omega,?_⟩,fun h4 => ⟨by omega,?_⟩⟩⟩⟩⟩
  ·rw [if_pos h,if_neg (by omega),show Sp.okL w = Sp.whB w.v by unfold Sp.okL;rw [if_pos (.inl h)]] at next
   rw [eb];exact next
  ·rw [if_neg h1,if_pos h,show Sp.okL w = Sp.whB w.v by unfold Sp.okL;rw [if_pos (.inr h)]] at next
   rw [eb];exact next
  ·rw [if_neg h1,if_neg h2,show Sp.okL w = true by unfold Sp.okL;rw [if_neg (by omega)];exact decide_eq_true (.inl h),Bool.and_true] at next
   exact next
  ·rw [if_neg h1,if_neg h2,show Sp.okL w = true by unfold Sp.okL;rw [if_neg (by omega)];exact decide_eq_true (.inr h),Bool.and_true] at next
   exact next
  ·rw [if_neg h1,if_neg h2,show Sp.okL w = false by unfold Sp.okL;rw [if_neg (by omega)];exact decide_eq_false (by omega),Bool.and_false] at next
   exact next
theorem ev13 (sk f:Bool) (ws:List Wo) (cm:List UInt8) (h:Sp.okW ws):Ev M1 (.pure 13 [bkA sk f ws cm]) (.tup [.int .i64 (Sp.cN ws),.int .i64 (Sp.cT ws),.bool (Sp.cIs ws),.int .i64 (Sp.cE ws)]) []:=by
 unfold Sp.cN Sp.cT Sp.cE Sp.cIs
 refine call13 (suK sk f ws cm _ ⟨h.1,fun k => ?_,fun k => ?_⟩)
 ·have k:Sp.hasW ws 77 98000 = false:=by simpa using k
  simp only [k,Bool.false_and]
  rfl
 ·have k:Sp.hasW ws 77 98000 = true:=by simpa using k
  simp only [k,Bool.true_and]
  have:=suKa_loop (f:=f) h rfl ws.length 0 [] (by omega) ⟨rfl,rfl⟩ (fun c => rfl)
  rw [List.take_zero,show Sp.lp [] = 0 from whV_0,show Sp.lt [] = 1 from whV_1] at this
  cases hc:Sp.okC ws with
  | true => rw [hc] at this;exact this
  | false => rw [hc] at this;exact this
def Sp.rp (ws:List Wo):Int:=Sp.whR (Sp.lastD (Sp.codes ws 80) 0)
def Sp.rt (ws:List Wo):Int:=Sp.whR (Sp.lastD (Sp.codes ws 76) 1000)
theorem rp_snoc (pre:List Wo) (w:Wo):Sp.rp (pre ++ [w]) = if w.l = 80 then Sp.whR w.v else Sp.rp pre:=by
 unfold Sp.rp
 rw [codes_snoc]
 split
 ·rw [last_snoc]
 ·rfl
theorem rt_snoc (pre:List Wo) (w:Wo):Sp.rt (pre ++ [w]) = if w.l = 76 then Sp.whR w.v else Sp.rt pre:=by
 unfold Sp.rt
 rw [codes_snoc]
 split
 ·rw [last_snoc]
 ·rfl
def Sp.lets (ws:List Wo):Bool:=ws.all fun w => decide (w.l = 77 \/ w.l = 80 \/ w.l = 76 \/ w.l = 78)
theorem whR_pos {x:Int}:Sp.whR x = 0 ↔ Sp.whB x = false:=by
 unfold Sp.whR
 cases h:Sp.whB x with
 | false => simp
 | true =>
  unfold Sp.whB at h
  simp only [decide_eq_true_eq] at h
  simp [Sp.whV];omega
theorem mem_codes {ws:List Wo} {c x:Int}:x ∈ Sp.codes ws c ↔ ∃ w ∈ ws,w.l = c /\ w.v = x:=by
 unfold Sp.codes
 simp only [List.mem_map,List.mem_filter,decide_eq_true_eq]
 exact ⟨fun ⟨w,⟨h1,h2⟩,h3⟩ => ⟨w,h1,h2,h3⟩,fun ⟨w,h1,h2,h3⟩ => ⟨w,⟨h1,h2⟩,h3⟩⟩
theorem okC_iff {ws:List Wo}:Sp.okC ws = true ↔ (Sp.lets ws = true /\ ¬((((((¬Sp.cnt ws 77 = 1) \/ (¬Sp.cnt ws 80 = 1)) \/ (Sp.cnt ws 76 > 1)) \/ (Sp.cnt ws 78 > 1)) \/ (Sp.rp ws = 0)) \/ (Sp.rt ws = 0))):=by
 unfold Sp.okC Sp.lets
 simp only [Bool.and_eq_true,List.all_eq_true,decide_eq_true_eq]
 have one:∀ c d,Sp.cnt ws c = 1 -> ∃ x,Sp.codes ws c = [x] /\ Sp.lastD (Sp.codes ws c) d = x:=by
  intro c d h
  unfold Sp.cnt at h
  match hc:Sp.codes ws c,h with
  | [x],_ => exact ⟨x,rfl,rfl⟩
 have none:∀ c d,Sp.cnt ws c = 0 -> Sp.lastD (Sp.codes ws c) d = d /\ Sp.codes ws c = []:=by
  intro c d h
  unfold Sp.cnt at h
  have:Sp.codes ws c = []:=List.length_eq_zero_iff.1 (by omega)
  exact ⟨by rw [this];rfl,this⟩
 constructor
 ·rintro ⟨h1,h2,h3,h4,h5⟩
  refine ⟨fun w hw => ?_,?_⟩
  ·have:=h1 w hw
   unfold Sp.okL at this
   split at this
   ·rename_i k;omega
   ·simp only [decide_eq_true_eq] at this;omega
  ·have c4:=cnt_le ws 76
   have p0:¬Sp.rp ws = 0:=by
    obtain ⟨x,e1,e2⟩:=one 80 0 h3
    unfold Sp.rp
    rw [e2,whR_pos]
    obtain ⟨w,hw,k1,k2⟩:=mem_codes.1 (show x ∈ Sp.codes ws 80 by rw [e1];simp)
    have:=h1 w hw
    unfold Sp.okL at this
    rw [if_pos (.inl k1),k2] at this
    rw [this];simp
   have t0:¬Sp.rt ws = 0:=by
    unfold Sp.rt
    rw [whR_pos]
    by_cases hz:Sp.cnt ws 76 = 0
    ·rw [(none 76 1000 hz).1];decide
    ·obtain ⟨x,e1,e2⟩:=one 76 1000 (by omega)
     rw [e2]
     obtain ⟨w,hw,k1,k2⟩:=mem_codes.1 (show x ∈ Sp.codes ws 76 by rw [e1];simp)
     have:=h1 w hw
     unfold Sp.okL at this
     rw [if_pos (.inr k1),k2] at this
     rw [this];simp
   omega
 ·rintro ⟨h1,h2⟩
  have g1:Sp.cnt ws 77 = 1 /\ Sp.cnt ws 80 = 1 /\ Sp.cnt ws 76 <= 1 /\ Sp.cnt ws 78 <= 1 /\ ¬Sp.rp ws = 0 /\ ¬Sp.rt ws = 0:=by omega
  obtain ⟨a1,a2,a3,a4,a5,a6⟩:=g1
  refine ⟨fun w hw => ?_,a1,a2,a3,a4⟩
  have hl:=h1 w hw
  unfold Sp.okL
  split
  ·rename_i k
   rcases k with k | k
   ·obtain ⟨x,e1,e2⟩:=one 80 0 a2
    have hx:w.v ∈ Sp.codes ws 80:=mem_codes.2 ⟨w,hw,k,rfl⟩
    rw [e1,List.mem_singleton] at hx
    unfold Sp.rp at a5
    rw [e2,whR_pos,<- hx] at a5
    simpa using a5
   ·have hx:w.v ∈ Sp.codes ws 76:=mem_codes.2 ⟨w,hw,k,rfl⟩
    have hz:¬Sp.cnt ws 76 = 0:=fun hz => by rw [(none 76 1000 hz).2] at hx;cases hx
    have:=cnt_le ws 76
    obtain ⟨x,e1,e2⟩:=one 76 1000 (by omega)
    rw [e1,List.mem_singleton] at hx
    unfold Sp.rt at a6
    rw [e2,whR_pos,<- hx] at a6
    simpa using a6
  ·exact decide_eq_true (by omega)
theorem okC_vals {ws:List Wo} (h:Sp.okC ws = true):Sp.rp ws = Sp.lp ws /\ Sp.rt ws = Sp.lt ws:=by
 have hi:=(okC_iff.1 h).2
 have g:¬Sp.rp ws = 0 /\ ¬Sp.rt ws = 0:=by omega
 unfold Sp.rp Sp.rt at g
 rw [whR_pos,whR_pos] at g
 unfold Sp.rp Sp.rt Sp.lp Sp.lt Sp.whR
 rw [if_pos (by simpa using g.1),if_pos (by simpa using g.2)]
 exact ⟨rfl,rfl⟩
theorem suRa_loop {sk f:Bool} {ws:List Wo} {cm:List UInt8} {dq:AV} (hl:Sp.okW ws) (hq:AV.tup [.int .i64 (if Sp.okC ws = true then Sp.lp ws else 0),.int .i64 (if Sp.okC ws = true then Sp.lt ws else 0),.bool (Sp.okC ws),.int .i64 (if Sp.okC ws = true then 0 else 1)] = dq) :
  ∀ (k i:Nat),i + k = ws.length -> Sp.lets (ws.take i) = true -> suRa_at sk f ws cm (Sp.rp (ws.take i)) (Sp.rt (ws.take i)) (Sp.cnt (ws.take i) 80) (Sp.cnt (ws.take i) 76) (Sp.cnt (ws.take i) 77) (Sp.cnt (ws.take i) 78) i (PureQ dq):=by
 have hlen:=hl.1
 intro k
 induction k with
 | zero =>
  intro i hi hs
  rw [List.take_of_length_le (show ws.length <= i by omega)] at hs ⊢
  refine suRa _ _ _ _ _ _ _ _ _ _ _ _ ⟨fun h => by omega,fun _ => ⟨fun h => ?_,fun h => ?_⟩⟩
  ·have hn:Sp.okC ws = false:=by
    cases hc:Sp.okC ws with
    | false => rfl
    | true => exact absurd h (okC_iff.1 hc).2
   rw [hn] at hq
   exact hq
  ·have hn:Sp.okC ws = true:=okC_iff.2 ⟨hs,h⟩
   obtain ⟨e1,e2⟩:=okC_vals hn
   rw [hn] at hq
   rw [e1,e2]
   exact hq
 | succ k ih =>
  intro i hi hs
  have hil:i < ws.length:=by omega
  have hv:=okV_at hl hil
  have hp:=rp_snoc (ws.take i) (ws.getD i default)
  have ht:=rt_snoc (ws.take i) (ws.getD i default)
  have hn:∀ c,Sp.cnt (ws.take (i + 1)) c = if (ws.getD i default).l = c then Sp.cnt (ws.take i) c + 1 else Sp.cnt (ws.take i) c:=fun c => by rw [takeW hil,cnt_snoc]
  have hs':Sp.lets (ws.take (i + 1)) = (Sp.lets (ws.take i) && decide ((ws.getD i default).l = 77 \/ (ws.getD i default).l = 80 \/ (ws.getD i default).l = 76 \/ (ws.getD i default).l = 78)):=by
   unfold Sp.lets
   rw [takeW hil,List.all_append];simp
  have hmem:ws.getD i default ∈ ws:=getD_mem hil
  rw [<- takeW hil] at hp ht
  refine suRa _ _ _ _ _ _ _ _ _ _ _ _ ⟨fun _ => ?_,fun h => by omega⟩
  rw [Int.toNat_natCast]
  generalize ws.getD i default = w at hv hs' hp ht hn hmem ⊢
  have cb:=fun c => cnt_le (ws.take i) c
  have c1:=cb 77
  have c2:=cb 80
  have c3:=cb 76
  have c4:=cb 78
  have cl:(ws.take i).length <= ws.length:=by rw [List.length_take];omega
  have next:=ih (i + 1) (by omega)
  rw [hs',hs,Bool.true_and,hp,ht,hn,hn,hn,hn] at next
  refine ⟨by omega,by omega,fun h => ⟨by omega,by omega,?_⟩,fun h1 => ⟨fun h => ⟨by omega,hv,by omega,?_⟩,fun h2 => ⟨fun h => ⟨by omega,hv,by omega,?_⟩,fun h3 => ⟨fun h => ⟨by omega,by omega,?_⟩,fun h4 => ?_⟩⟩⟩⟩
  ·have:=next (decide_eq_true (.inl h))
   simp only [h,if_true,show ¬(77:Int) = 80 by omega,show ¬(77:Int) = 76 by omega,show ¬(77:Int) = 78 by omega,if_false] at this
   exact this
  ·have:=next (decide_eq_true (.inr (.inl h)))
   simp only [h,if_true,show ¬(80:Int) = 77 by omega,show ¬(80:Int) = 76 by omega,show ¬(80:Int) = 78 by omega,if_false] at this
   exact this
  ·have:=next (decide_eq_true (.inr (.inr (.inl h))))
   simp only [h,if_true,show ¬(76:Int) = 77 by omega,show ¬(76:Int) = 80 by omega,show ¬(76:Int) = 78 by omega,if_false] at this
   exact this
  ·have:=next (decide_eq_true (.inr (.inr (.inr h))))
   simp only [h,if_true,show ¬(78:Int) = 77 by omega,show ¬(78:Int) = 80 by omega,show ¬(78:Int) = 76 by omega,if_false] at this
   exact this
  ·have hnn:Sp.okC ws = false:=by
    cases hc:Sp.okC ws with
    | false => rfl
    | true =>
     have:=(okC_iff.1 hc).1
     unfold Sp.lets at this
     have:=List.all_eq_true.1 this w hmem
     simp only [decide_eq_true_eq] at this
     omega
   rw [hnn] at hq
   exact hq
theorem ev14 (sk f:Bool) (ws:List Wo) (cm:List UInt8) (h:Sp.okW ws):Ev M1 (.pure 14 [bkA sk f ws cm]) (.tup [.int .i64 (Sp.cN ws),.int .i64 (Sp.cT ws),.bool (Sp.cIs ws),.int .i64 (Sp.cE ws)]) []:=by
 unfold Sp.cN Sp.cT Sp.cE Sp.cIs
 refine call14 (suR sk f ws cm _ ⟨h.1,fun k => ?_,fun k => ?_⟩)
 ·have k:Sp.hasW ws 77 98000 = false:=by simpa using k
  simp only [k,Bool.false_and]
  rfl
 ·have k:Sp.hasW ws 77 98000 = true:=by simpa using k
  simp only [k,Bool.true_and]
  have:=suRa_loop (sk:=sk) (f:=f) (cm:=cm) h rfl ws.length 0 (by omega) rfl
  rw [List.take_zero,show Sp.rp [] = 0 by decide,show Sp.rt [] = 1 by decide] at this
  cases hc:Sp.okC ws with
  | true => rw [hc] at this;exact this
  | false => rw [hc] at this;exact this
end Go.Av

namespace Go.Av
open Go.Proofs
set_option maxRecDepth 100000
end Go.Av

namespace Go.Av
open Go.Proofs
theorem valB_okW {ws:List Wo} {cm:List UInt8} (h:Sp.valB ws cm = true):Sp.okW ws:=by
 unfold Sp.valB at h
 simp only [Bool.and_eq_true,decide_eq_true_eq,List.all_eq_true] at h
 obtain ⟨⟨h1,_⟩,h2,_⟩:=h
 refine ⟨by omega,fun w hw => ?_⟩
 have:=h2 w hw
 unfold Sp.woB at this
 simp only [decide_eq_true_eq] at this
 unfold Sp.okV
 omega
theorem vals_at {l:List Bk} {m:Int} (h:Sp.vals l m = true):(l.length:Int) <= m /\ ∀ b ∈ l,Sp.valB b.ws b.cm = true:=by
 unfold Sp.vals Sp.fewB at h
 simp only [Bool.and_eq_true,decide_eq_true_eq,List.all_eq_true] at h
 exact ⟨h.1.1,h.2⟩
end Go.Av

namespace Go.Av
open Go.Proofs
set_option maxRecDepth 100000
def fi48:Fi:=⟨45,[.tmp 4]⟩
def kp48:List (Nat × List Nat):=[(0,[2,3]),(1,[2,3,26]),(2,[4]),(3,[2,3,5]),(4,[2,3,5,31]),(5,[2,3,5]),(6,[2,3,5,44]),(7,[4]),(8,[4])]
def fi64:Fi:=⟨5,[.tmp 2]⟩
def kp64:List (Nat × List Nat):=[(0,[1]),(1,[2])]
def fi65:Fi:=⟨5,[.tmp 2]⟩
def kp65:List (Nat × List Nat):=[(0,[1]),(1,[2])]
def fi66:Fi:=⟨10,[.tmp 4]⟩
def kp66:List (Nat × List Nat):=[(0,[1,2]),(1,[4])]
def fi77:Fi:=⟨15,[.tmp 2]⟩
def kp77:List (Nat × List Nat):=[(0,[1]),(1,[2])]
def suMk_at (sk f:Bool) (ws:List Wo) (cm:List UInt8) (Q:AV -> Heap -> Prop):Prop:=Wp M1 (.run fi77 (atC (cd Try.f77) []) [(0,.agg [.bool sk,.vec f 2 (ws.map Wo.a),.str cm])] []) Q
def suLt_at (sk f:Bool) (ws:List Wo) (cm:List UInt8) (c:Int) (Q:AV -> Heap -> Prop):Prop:=Wp M1 (.run fi66 (atC (cd Try.f66) []) [(0,.agg [.bool sk,.vec f 2 (ws.map Wo.a),.str cm]),(1,.int .u8 c)] []) Q
def suEn_at (sk f:Bool) (ws:List Wo) (cm:List UInt8) (Q:AV -> Heap -> Prop):Prop:=Wp M1 (.run fi64 (atC (cd Try.f64) []) [(0,.agg [.bool sk,.vec f 2 (ws.map Wo.a),.str cm])] []) Q
def suRe_at (sk f:Bool) (ws:List Wo) (cm:List UInt8) (Q:AV -> Heap -> Prop):Prop:=Wp M1 (.run fi65 (atC (cd Try.f65) []) [(0,.agg [.bool sk,.vec f 2 (ws.map Wo.a),.str cm])] []) Q
def suEq_at (sk f tk g:Bool) (ws vs:List Wo) (cm dm:List UInt8) (Q:AV -> Heap -> Prop):Prop:=Wp M1 (.run fi48 (atC (cd Try.f48) []) [(0,.agg [.bool sk,.vec f 2 (ws.map Wo.a),.str cm]),(1,.agg [.bool tk,.vec g 2 (vs.map Wo.a),.str dm])] []) Q
def suEqa_at (sk f tk g:Bool) (ws vs:List Wo) (cm dm:List UInt8) (i:Int) (Q:AV -> Heap -> Prop):Prop:=Wp M1 (.run fi48 (atC (cd Try.f48) [1,1,0,1,0,0]) [(2,.ptr 0 0 0 0),(3,.ptr 1 0 0 0),(5,.int .i64 i)] [⟨[.agg [.bool sk,.vec f 2 (ws.map Wo.a),.str cm]],3,0,false,false⟩,⟨[.agg [.bool tk,.vec g 2 (vs.map Wo.a),.str dm]],3,0,false,false⟩]) Q
theorem call48 {args:List AV} {d:AV} (h:wc M1 fi48 Try.f48 args d):Ev M1 (.pure 48 args) d []:=pcl _ _ (by kernel_rfl) h
theorem call64 {args:List AV} {d:AV} (h:wc M1 fi64 Try.f64 args d):Ev M1 (.pure 64 args) d []:=pcl _ _ (by kernel_rfl) h
theorem call65 {args:List AV} {d:AV} (h:wc M1 fi65 Try.f65 args d):Ev M1 (.pure 65 args) d []:=pcl _ _ (by kernel_rfl) h
theorem call66 {args:List AV} {d:AV} (h:wc M1 fi66 Try.f66 args d):Ev M1 (.pure 66 args) d []:=pcl _ _ (by kernel_rfl) h
theorem call77 {args:List AV} {d:AV} (h:wc M1 fi77 Try.f77 args d):Ev M1 (.pure 77 args) d []:=pcl _ _ (by kernel_rfl) h
theorem suMk (sk f:Bool) (ws:List Wo) (cm:List UInt8)  (dq:AV) (H :
  (Sp.few6 ws.length) /\
  vb (bif bif decide ((↑(Sp.codes ws 79).length:Int) > 0) then true else Sp.hasW ws 77 30000 then true else Sp.hasW ws 77 99000) = dq) :
 suMk_at sk f ws cm (PureQ dq):=by
 unfold suMk_at
 obtain ⟨k1,H⟩:=H
 have w2:(List.map (vi) (Sp.codes ws 79)).length = (Sp.codes ws 79).length:=List.length_map ..
 have i3:(decide ((↑(List.map (vi) (Sp.codes ws 79)).length:Int) > 0) == false && true && true) = true ↔ (¬((↑(Sp.codes ws 79).length:Int) > 0)):=(by (try rw [w2]);all_goals exact (i_at (i_at (i_bf i_dec))))
 have i4:((bif decide ((↑(List.map (vi) (Sp.codes ws 79)).length:Int) > 0) then true else Sp.hasW ws 77 30000) == false && true && true) = true ↔ (¬(((↑(Sp.codes ws 79).length:Int) > 0) \/ (Sp.hasW ws 77 30000 = true))):=(by (try rw [w2]);all_goals exact (i_at (i_at (i_bf (i_bor i_dec (i_var _))))))
 exact path_re (G:=given kp77 [(1,1,.call (vf (List.map (vi) (Sp.codes ws 79))) none),(1,6,.call (vb (Sp.hasW ws 77 30000)) none),(1,10,.call (vb (Sp.hasW ws 77 99000)) none)] []) 1000 [] (asm:=[true,!(decide ((↑(List.map (vi) (Sp.codes ws 79)).length:Int) > 0) == false && true) || true,!((bif decide ((↑(List.map (vi) (Sp.codes ws 79)).length:Int) > 0) then true else Sp.hasW ws 77 30000) == false && true) || true]) (calls:=[⟨true,false,70,[ag [vb sk,AV.vec f 2 (List.map Wo.a ws),AV.str cm],AV.int IntKind.u8 79],[],vf (List.map (vi) (Sp.codes ws 79)),[]⟩,⟨decide ((↑(List.map (vi) (Sp.codes ws 79)).length:Int) > 0) == false && true && true,false,40,[ag [vb sk,AV.vec f 2 (List.map Wo.a ws),AV.str cm],AV.int IntKind.u8 77,vi 30000],[],vb (Sp.hasW ws 77 30000),[]⟩,⟨(bif decide ((↑(List.map (vi) (Sp.codes ws 79)).length:Int) > 0) then true else Sp.hasW ws 77 30000) == false && true && true,false,40,[ag [vb sk,AV.vec f 2 (List.map Wo.a ws),AV.str cm],AV.int IntKind.u8 77,vi 99000],[],vb (Sp.hasW ws 77 99000),[]⟩]) (vb (bif bif decide ((↑(List.map (vi) (Sp.codes ws 79)).length:Int) > 0) then true else Sp.hasW ws 77 30000 then true else Sp.hasW ws 77 99000)) (by kernel_rfl) (bc rfl (bc (Bool.or_true _) (bc (Bool.or_true _) b0))) q0 (cc (fun _ => (@ev70 (sk) (f) (ws) (cm) (79) k1)) (cc (fun hc => ((@ev40 (sk) (f) (ws) (cm) (77) (30000) k1):Ev M1 (Conf.pure 40 [ag [vb sk,AV.vec f 2 (List.map Wo.a ws),AV.str cm],AV.int IntKind.u8 77,vi 30000]) (vb (Sp.hasW ws 77 30000)) [])) (cc (fun hc => ((@ev40 (sk) (f) (ws) (cm) (77) (99000) k1):Ev M1 (Conf.pure 40 [ag [vb sk,AV.vec f 2 (List.map Wo.a ws),AV.str cm],AV.int IntKind.u8 77,vi 99000]) (vb (Sp.hasW ws 77 99000)) [])) c0))) (by (try rw [w2]);all_goals exact H)
theorem suLt (sk f:Bool) (ws:List Wo) (cm:List UInt8) (c:Int)  (dq:AV) (H :
  (Sp.few6 ws.length) /\
  vb (decide ((↑(Sp.codes ws c).length:Int) > 0)) = dq) :
 suLt_at sk f ws cm c (PureQ dq):=by
 unfold suLt_at
 obtain ⟨k1,H⟩:=H
 have w2:(List.map (vi) (Sp.codes ws c)).length = (Sp.codes ws c).length:=List.length_map ..
 exact path_re (G:=given kp66 [(1,2,.call (vf (List.map (vi) (Sp.codes ws c))) none)] []) 1000 [] (vb (decide ((↑(List.map (vi) (Sp.codes ws c)).length:Int) > 0))) (by kernel_rfl) (bc rfl b0) q0 (ce (@ev81 (sk) (f) (ws) (cm) (c) k1) c0) (by (try rw [w2]);all_goals exact H)
theorem suEn (sk f:Bool) (ws:List Wo) (cm:List UInt8)  (dq:AV) (H :
  (Sp.few6 ws.length) /\
  vb (Sp.hasW ws 77 30000) = dq) :
 suEn_at sk f ws cm (PureQ dq):=by
 unfold suEn_at
 obtain ⟨k1,H⟩:=H
 exact path_re (G:=given kp64 [(1,1,.call (vb (Sp.hasW ws 77 30000)) none)] []) 1000 [] (vb (Sp.hasW ws 77 30000)) (by kernel_rfl) (bc rfl b0) q0 (ce (@ev42 (sk) (f) (ws) (cm) (77) (30000) k1) c0) H
theorem suRe (sk f:Bool) (ws:List Wo) (cm:List UInt8)  (dq:AV) (H :
  (Sp.few6 ws.length) /\
  vb (Sp.hasW ws 77 99000) = dq) :
 suRe_at sk f ws cm (PureQ dq):=by
 unfold suRe_at
 obtain ⟨k1,H⟩:=H
 exact path_re (G:=given kp65 [(1,1,.call (vb (Sp.hasW ws 77 99000)) none)] []) 1000 [] (vb (Sp.hasW ws 77 99000)) (by kernel_rfl) (bc rfl b0) q0 (ce (@ev42 (sk) (f) (ws) (cm) (77) (99000) k1) c0) H
theorem suEq (sk f tk g:Bool) (ws vs:List Wo) (cm dm:List UInt8)  (dq:AV) (H :
  ((((¬(sk = tk)) \/ (¬cm = dm)) \/ (¬(↑ws.length:Int) = (↑vs.length:Int))) -> vb false = dq) /\
  (¬(((¬(sk = tk)) \/ (¬cm = dm)) \/ (¬(↑ws.length:Int) = (↑vs.length:Int))) -> suEqa_at (sk) (f) (tk) (g) (ws) (vs) (cm) (dm) (0) (PureQ dq))) :
 suEq_at sk f tk g ws vs cm dm (PureQ dq):=by
 unfold suEq_at
 have w1:(List.map Wo.a ws).length = ws.length:=List.length_map ..
 have w2:(List.map Wo.a vs).length = vs.length:=List.length_map ..
 have i3:(bif bif !sk == tk then true else !cm == dm then true else (↑(List.map Wo.a ws).length:Int) != (↑(List.map Wo.a vs).length:Int)) = true ↔ (((¬(sk = tk)) \/ (¬cm = dm)) \/ (¬(↑ws.length:Int) = (↑vs.length:Int))):=(by (try rw [w1]);(try rw [w2]);all_goals exact (i_bor (i_bor (i_not i_eq) i_neq) i_ne))
 rcases xm (((¬(sk = tk)) \/ (¬cm = dm)) \/ (¬(↑ws.length:Int) = (↑vs.length:Int))) with d4 | d4
 ·have H:=H.1 d4
  exact path_re (G:=given kp48 [] []) 1000 [true] (asm:=[true,true,!((!sk == tk) == false && true) || true,!((!sk == tk) == false && true) || true,!((bif !sk == tk then true else !cm == dm) == false && true) || true,!((bif !sk == tk then true else !cm == dm) == false && true) || true,(bif bif !sk == tk then true else !cm == dm then true else (↑(List.map Wo.a ws).length:Int) != (↑(List.map Wo.a vs).length:Int)) == true]) (vb false) (by kernel_rfl) (bc rfl (bc rfl (bc (Bool.or_true _) (bc (Bool.or_true _) (bc (Bool.or_true _) (bc (Bool.or_true _) (bc (beq_t (i3.2 d4)) b0))))))) q0 c0 H
 ·have H:=H.2 d4
  exact path_wp (G:=given kp48 [] []) 1000 [false] ⟨(atC (cd Try.f48) [1,1,0,1,0,0]),[(2,AV.ptr 0 0 0 0),(3,AV.ptr 1 0 0 0),(5,vi 0)],[⟨[ag [vb sk,AV.vec f 2 (List.map Wo.a ws),AV.str cm]],3,0,false,false⟩,⟨[ag [vb tk,AV.vec g 2 (List.map Wo.a vs),AV.str dm]],3,0,false,false⟩],[true,true,!((!sk == tk) == false && true) || true,!((!sk == tk) == false && true) || true,!((bif !sk == tk then true else !cm == dm) == false && true) || true,!((bif !sk == tk then true else !cm == dm) == false && true) || true,(bif bif !sk == tk then true else !cm == dm then true else (↑(List.map Wo.a ws).length:Int) != (↑(List.map Wo.a vs).length:Int)) == false],[],_⟩ (by kernel_rfl) (bc rfl (bc rfl (bc (Bool.or_true _) (bc (Bool.or_true _) (bc (Bool.or_true _) (bc (Bool.or_true _) (bc (beq_f (fun h => d4 (i3.1 h))) b0))))))) q0 c0 (H)
theorem suEqa (sk f tk g:Bool) (ws vs:List Wo) (cm dm:List UInt8) (i:Int)  (dq:AV) (H :
  ((i < (↑ws.length:Int)) -> (0 <= i) /\
   (i.toNat < ws.length) /\
   (i.toNat < vs.length) /\
   ((¬(((ws.getD i.toNat default).l = (vs.getD i.toNat default).l) /\ ((ws.getD i.toNat default).v = (vs.getD i.toNat default).v))) -> vb false = dq) /\
   (¬(¬(((ws.getD i.toNat default).l = (vs.getD i.toNat default).l) /\ ((ws.getD i.toNat default).v = (vs.getD i.toNat default).v))) -> (-9223372036854775808 <= i + 1 /\ i + 1 <= 9223372036854775807) /\
    suEqa_at (sk) (f) (tk) (g) (ws) (vs) (cm) (dm) (i + 1) (PureQ dq))) /\
  (¬(i < (↑ws.length:Int)) -> vb true = dq)) :
 suEqa_at sk f tk g ws vs cm dm i (PureQ dq):=by
 unfold suEqa_at
 have w1:(List.map Wo.a ws).length = ws.length:=List.length_map ..
 have i2:(decide (i < (↑(List.map Wo.a ws).length:Int))) = true ↔ (i < (↑ws.length:Int)):=(by (try rw [w1]);all_goals exact i_dec)
 rcases xm (i < (↑ws.length:Int)) with d3 | d3
 ·have H:=H.1 d3
  obtain ⟨k5,H⟩:=H
  have i6:(decide (i.toNat < (List.map Wo.a ws).length)) = true ↔ (i.toNat < ws.length):=(by (try rw [w1]);all_goals exact i_dec)
  obtain ⟨k7,H⟩:=H
  have w9:(List.map Wo.a vs).length = vs.length:=List.length_map ..
  have i10:(decide (i.toNat < (List.map Wo.a vs).length)) = true ↔ (i.toNat < vs.length):=(by (try rw [w9]);all_goals exact i_dec)
  obtain ⟨k11,H⟩:=H
  refine path_wp (G:=given kp48 [(6,4,.elem (ag [AV.int IntKind.u8 (ws.getD i.toNat default).l,vi (ws.getD i.toNat default).v])),(6,9,.elem (ag [AV.int IntKind.u8 (vs.getD i.toNat default).l,vi (vs.getD i.toNat default).v]))] []) 9 [true] ⟨(atC (cd Try.f48) [1,1,0,1,0,0,1,0,0,1]),[(2,AV.ptr 0 0 0 0),(3,AV.ptr 1 0 0 0),(5,vi i),(44,vb !((ws.getD i.toNat default).l == (vs.getD i.toNat default).l && ((ws.getD i.toNat default).v == (vs.getD i.toNat default).v && true)))],[⟨[ag [vb sk,AV.vec f 2 (List.map Wo.a ws),AV.str cm]],3,0,false,false⟩,⟨[ag [vb tk,AV.vec g 2 (List.map Wo.a vs),AV.str dm]],3,0,false,false⟩],_,[((List.map Wo.a ws).get?Internal i.toNat = some (ag [AV.int IntKind.u8 (ws.getD i.toNat default).l,vi (ws.getD i.toNat default).v])),((List.map Wo.a vs).get?Internal i.toNat = some (ag [AV.int IntKind.u8 (vs.getD i.toNat default).l,vi (vs.getD i.toNat default).v]))],_⟩ (by kernel_rfl) (bc rfl (bc (beq_t (i2.2 d3)) (bc rfl (bc (i_dec.2 k5) (bc (i6.2 k7) (bc rfl (bc (i_dec.2 k5) (bc (i10.2 k11) b0)))))))) (qc (el_map k7) (qc (el_map k11) q0)) c0 ?_
  rcases xm (¬(((ws.getD i.toNat default).l = (vs.getD i.toNat default).l) /\ ((ws.getD i.toNat default).v = (vs.getD i.toNat default).v))) with d13 | d13
  ·have H:=H.1 d13
   exact path_re (G:=given kp48 [] []) 1000 [true] (vb false) (by kernel_rfl) (bc (beq_t ((i_not (i_and i_eq (i_at i_eq))).2 d13)) b0) q0 c0 H
  ·have H:=H.2 d13
   obtain ⟨k14,H⟩:=H
   have w15:wi (i + 1) = i + 1:=wI64 k14
   exact path_wp (G:=given kp48 [] []) 1000 [false] ⟨(atC (cd Try.f48) [1,1,0,1,0,0]),[(2,AV.ptr 0 0 0 0),(3,AV.ptr 1 0 0 0),(5,vi (wi (i + 1)))],[⟨[ag [vb sk,AV.vec f 2 (List.map Wo.a ws),AV.str cm]],3,0,false,false⟩,⟨[ag [vb tk,AV.vec g 2 (List.map Wo.a vs),AV.str dm]],3,0,false,false⟩],_,[],_⟩ (by kernel_rfl) (bc (beq_f (fun h => d13 ((i_not (i_and i_eq (i_at i_eq))).1 h))) b0) q0 c0 (by (try rw [w15]);all_goals exact H)
 ·have H:=H.2 d3
  exact path_re (G:=given kp48 [] []) 1000 [false] (vb true) (by kernel_rfl) (bc rfl (bc (beq_f (fun h => d3 (i2.1 h))) b0)) q0 c0 H
end Go.Av

namespace Go.Av
open Go.Proofs
namespace Sp
def letB (ws:List Wo) (c:Int):Bool:=decide (0 < (codes ws c).length)
def endB (ws:List Wo):Bool:=hasW ws 77 30000
def backB (ws:List Wo):Bool:=hasW ws 77 99000
def mkB (ws:List Wo):Bool:=letB ws 79 || (endB ws || backB ws)
def plB (sk:Bool) (ws:List Wo) (cm:List UInt8):Bool:=decide (ws.length = 1 /\ sk = false /\ cm = [])
def eqB (sk tk:Bool) (ws vs:List Wo) (cm dm:List UInt8):Bool:=decide (sk = tk /\ cm = dm /\ ws = vs)
end Sp
theorem gt_pos (n:Nat):decide ((n:Int) > 0) = decide (0 < n):=decide_eq_decide.2 (by omega)
theorem ev77 (sk f:Bool) (ws:List Wo) (cm:List UInt8) (h:Sp.few6 ws.length):Ev M1 (.pure 77 [bkA sk f ws cm]) (.bool (Sp.mkB ws)) []:=by
 refine call77 (suMk sk f ws cm _ ⟨h,?_⟩)
 unfold Sp.mkB Sp.letB Sp.endB Sp.backB
 rw [gt_pos]
 cases decide (0 < (Sp.codes ws 79).length) <;> cases Sp.hasW ws 77 30000 <;> rfl
theorem ev66 (sk f:Bool) (ws:List Wo) (cm:List UInt8) (c:Int) (h:Sp.few6 ws.length):Ev M1 (.pure 66 [bkA sk f ws cm,.int .u8 c]) (.bool (Sp.letB ws c)) []:=
 call66 (suLt sk f ws cm c _ ⟨h,by rw [gt_pos];rfl⟩)
theorem ev64 (sk f:Bool) (ws:List Wo) (cm:List UInt8) (h:Sp.few6 ws.length):Ev M1 (.pure 64 [bkA sk f ws cm]) (.bool (Sp.endB ws)) []:=
 call64 (suEn sk f ws cm _ ⟨h,rfl⟩)
theorem ev65 (sk f:Bool) (ws:List Wo) (cm:List UInt8) (h:Sp.few6 ws.length):Ev M1 (.pure 65 [bkA sk f ws cm]) (.bool (Sp.backB ws)) []:=
 call65 (suRe sk f ws cm _ ⟨h,rfl⟩)
theorem wo_eq {a b:Wo}:a = b ↔ a.l = b.l /\ a.v = b.v:=⟨fun h => by rw [h];exact ⟨rfl,rfl⟩,fun ⟨h1,h2⟩ => by cases a;cases b;simp_all⟩
theorem suEq_loop {sk f tk g:Bool} {ws vs:List Wo} {cm dm:List UInt8} {dq:AV} (he:ws.length = vs.length) (hl:ws.length <= 1000000):∀ (k i:Nat),i + k = ws.length -> AV.bool (decide (ws.drop i = vs.drop i)) = dq -> suEqa_at sk f tk g ws vs cm dm i (PureQ dq):=by
 intro k
 induction k with
 | zero =>
  intro i hi hq
  rw [List.drop_eq_nil_of_le (by omega),List.drop_eq_nil_of_le (by omega)] at hq
  exact suEqa _ _ _ _ _ _ _ _ _ _ ⟨fun h => by omega,fun _ => hq⟩
 | succ k ih =>
  intro i hi hq
  rw [drop_getD (show i < ws.length by omega),drop_getD (show i < vs.length by omega)] at hq
  refine suEqa _ _ _ _ _ _ _ _ _ _ ⟨fun _ => ?_,fun h => by omega⟩
  rw [Int.toNat_natCast]
  refine ⟨by omega,by omega,by omega,fun h => ?_,fun h => ⟨by omega,ih (i + 1) (by omega) ?_⟩⟩
  ·rw [decide_eq_false (fun e => h (wo_eq.1 (List.cons.inj e).1))] at hq
   exact hq
  ·rw [<- hq]
   congr 1
   rw [decide_eq_decide]
   have:=wo_eq.2 (Classical.not_not.1 h)
   rw [this];simp
theorem ev48 (sk f tk g:Bool) (ws vs:List Wo) (cm dm:List UInt8) (h:Sp.few6 ws.length):Ev M1 (.pure 48 [bkA sk f ws cm,bkA tk g vs dm]) (.bool (Sp.eqB sk tk ws vs cm dm)) []:=by
 unfold Sp.eqB
 refine call48 (suEq sk f tk g ws vs cm dm _ ⟨fun k => ?_,fun k => suEq_loop (by omega) h ws.length 0 (by omega) ?_⟩)
 ·rw [decide_eq_false]
  rintro ⟨rfl,rfl,rfl⟩
  simp at k
 ·have k1:sk = tk:=Classical.byContradiction fun e => k (.inl (.inl e))
  have k2:cm = dm:=Classical.byContradiction fun e => k (.inl (.inr e))
  congr 1
  rw [decide_eq_decide]
  simp [k1,k2]
end Go.Av

namespace Go.Av
open Go.Proofs
set_option maxRecDepth 100000
def fi18:Fi:=⟨27,[.tmp 4]⟩
def kp18:List (Nat × List Nat):=[(0,[0,1]),(1,[0,1,10]),(2,[4]),(3,[0,1,5]),(4,[0,1,5,14]),(5,[0,1,5]),(6,[0,1,5,26]),(7,[4]),(8,[4])]
def suSm_at (g h:Bool) (l q:List Bk) (Q:AV -> Heap -> Prop):Prop:=Wp M1 (.run fi18 (atC (cd Try.f18) []) [(0,.vec g 3 (l.map Bk.a)),(1,.vec h 3 (q.map Bk.a))] []) Q
def suSma_at (g h:Bool) (l q:List Bk) (i:Int) (Q:AV -> Heap -> Prop):Prop:=Wp M1 (.run fi18 (atC (cd Try.f18) [1,1,0,1,0,0]) [(0,.vec g 3 (l.map Bk.a)),(1,.vec h 3 (q.map Bk.a)),(5,.int .i64 i)] []) Q
theorem call18 {args:List AV} {d:AV} (h:wc M1 fi18 Try.f18 args d):Ev M1 (.pure 18 args) d []:=pcl _ _ (by kernel_rfl) h
theorem suSm (g h:Bool) (l q:List Bk)  (dq:AV) (H :
  ((¬(↑l.length:Int) = (↑q.length:Int)) -> vb false = dq) /\
  (¬(¬(↑l.length:Int) = (↑q.length:Int)) -> suSma_at (g) (h) (l) (q) (0) (PureQ dq))) :
 suSm_at g h l q (PureQ dq):=by
 unfold suSm_at
 have w1:(List.map Bk.a l).length = l.length:=List.length_map ..
 have w2:(List.map Bk.a q).length = q.length:=List.length_map ..
 have i3:((↑(List.map Bk.a l).length:Int) != (↑(List.map Bk.a q).length:Int)) = true ↔ (¬(↑l.length:Int) = (↑q.length:Int)):=(by (try rw [w1]);(try rw [w2]);all_goals exact i_ne)
 rcases xm (¬(↑l.length:Int) = (↑q.length:Int)) with d4 | d4
 ·have H:=H.1 d4
  exact path_re (G:=given kp18 [] []) 1000 [true] (vb false) (by kernel_rfl) (bc (beq_t (i3.2 d4)) b0) q0 c0 H
 ·have H:=H.2 d4
  exact path_wp (G:=given kp18 [] []) 1000 [false] ⟨(atC (cd Try.f18) [1,1,0,1,0,0]),[(0,AV.vec g 3 (List.map Bk.a l)),(1,AV.vec h 3 (List.map Bk.a q)),(5,vi 0)],[],_,[],_⟩ (by kernel_rfl) (bc (beq_f (fun h => d4 (i3.1 h))) b0) q0 c0 (H)
theorem suSma (g h:Bool) (l q:List Bk) (i:Int)  (dq:AV) (H :
  ((i < (↑l.length:Int)) -> (Sp.few6 (l.getD i.toNat default).3.length) /\
   (0 <= i) /\
   (i.toNat < l.length) /\
   (i.toNat < q.length) /\
   ((¬(Sp.eqB (l.getD i.toNat default).1 (q.getD i.toNat default).1 (l.getD i.toNat default).3 (q.getD i.toNat default).3 (l.getD i.toNat default).4 (q.getD i.toNat default).4 = true)) -> vb false = dq) /\
   (¬(¬(Sp.eqB (l.getD i.toNat default).1 (q.getD i.toNat default).1 (l.getD i.toNat default).3 (q.getD i.toNat default).3 (l.getD i.toNat default).4 (q.getD i.toNat default).4 = true)) -> (-9223372036854775808 <= i + 1 /\ i + 1 <= 9223372036854775807) /\
    suSma_at (g) (h) (l) (q) (i + 1) (PureQ dq))) /\
  (¬(i < (↑l.length:Int)) -> vb true = dq)) :
 suSma_at g h l q i (PureQ dq):=by
 unfold suSma_at
 have w1:(List.map Bk.a l).length = l.length:=List.length_map ..
 have i2:(decide (i < (↑(List.map Bk.a l).length:Int))) = true ↔ (i < (↑l.length:Int)):=(by (try rw [w1]);all_goals exact i_dec)
 rcases xm (i < (↑l.length:Int)) with d3 | d3
 ·have H:=H.1 d3
  obtain ⟨k4,H⟩:=H
  obtain ⟨k6,H⟩:=H
  have i7:(decide (i.toNat < (List.map Bk.a l).length)) = true ↔ (i.toNat < l.length):=(by (try rw [w1]);all_goals exact i_dec)
  obtain ⟨k8,H⟩:=H
  have w10:(List.map Bk.a q).length = q.length:=List.length_map ..
  have i11:(decide (i.toNat < (List.map Bk.a q).length)) = true ↔ (i.toNat < q.length):=(by (try rw [w10]);all_goals exact i_dec)
  obtain ⟨k12,H⟩:=H
  refine path_wp (G:=given kp18 [(6,3,.elem (ag [vb (l.getD i.toNat default).1,AV.vec (l.getD i.toNat default).2 2 (List.map Wo.a (l.getD i.toNat default).3),AV.str (l.getD i.toNat default).4])),(6,7,.elem (ag [vb (q.getD i.toNat default).1,AV.vec (q.getD i.toNat default).2 2 (List.map Wo.a (q.getD i.toNat default).3),AV.str (q.getD i.toNat default).4])),(6,8,.call (vb (Sp.eqB (l.getD i.toNat default).1 (q.getD i.toNat default).1 (l.getD i.toNat default).3 (q.getD i.toNat default).3 (l.getD i.toNat default).4 (q.getD i.toNat default).4)) none)] []) 9 [true] ⟨(atC (cd Try.f18) [1,1,0,1,0,0,1,0,0,1]),[(0,AV.vec g 3 (List.map Bk.a l)),(1,AV.vec h 3 (List.map Bk.a q)),(5,vi i),(26,vb !Sp.eqB (l.getD i.toNat default).1 (q.getD i.toNat default).1 (l.getD i.toNat default).3 (q.getD i.toNat default).3 (l.getD i.toNat default).4 (q.getD i.toNat default).4)],[],_,[((List.map Bk.a l).get?Internal i.toNat = some (ag [vb (l.getD i.toNat default).1,AV.vec (l.getD i.toNat default).2 2 (List.map Wo.a (l.getD i.toNat default).3),AV.str (l.getD i.toNat default).4])),((List.map Bk.a q).get?Internal i.toNat = some (ag [vb (q.getD i.toNat default).1,AV.vec (q.getD i.toNat default).2 2 (List.map Wo.a (q.getD i.toNat default).3),AV.str (q.getD i.toNat default).4]))],_⟩ (by kernel_rfl) (bc (beq_t (i2.2 d3)) (bc (i_dec.2 k6) (bc (i7.2 k8) (bc (i_dec.2 k6) (bc (i11.2 k12) b0))))) (qc (el_map k8) (qc (el_map k12) q0)) (ce (@ev48 ((l.getD i.toNat default).1) ((l.getD i.toNat default).2) ((q.getD i.toNat default).1) ((q.getD i.toNat default).2) ((l.getD i.toNat default).3) ((q.getD i.toNat default).3) ((l.getD i.toNat default).4) ((q.getD i.toNat default).4) k4) c0) ?_
  rcases xm (¬(Sp.eqB (l.getD i.toNat default).1 (q.getD i.toNat default).1 (l.getD i.toNat default).3 (q.getD i.toNat default).3 (l.getD i.toNat default).4 (q.getD i.toNat default).4 = true)) with d14 | d14
  ·have H:=H.1 d14
   exact path_re (G:=given kp18 [] []) 1000 [true] (asm:=[(!Sp.eqB (l.getD i.toNat default).1 (q.getD i.toNat default).1 (l.getD i.toNat default).3 (q.getD i.toNat default).3 (l.getD i.toNat default).4 (q.getD i.toNat default).4) == true]) (vb false) (by kernel_rfl) (bc (beq_t ((i_not (i_var _)).2 d14)) b0) q0 c0 H
  ·have H:=H.2 d14
   obtain ⟨k15,H⟩:=H
   have w16:wi (i + 1) = i + 1:=wI64 k15
   exact path_wp (G:=given kp18 [] []) 1000 [false] ⟨(atC (cd Try.f18) [1,1,0,1,0,0]),[(0,AV.vec g 3 (List.map Bk.a l)),(1,AV.vec h 3 (List.map Bk.a q)),(5,vi (wi (i + 1)))],[],[(!Sp.eqB (l.getD i.toNat default).1 (q.getD i.toNat default).1 (l.getD i.toNat default).3 (q.getD i.toNat default).3 (l.getD i.toNat default).4 (q.getD i.toNat default).4) == false],[],_⟩ (by kernel_rfl) (bc (beq_f (fun h => d14 ((i_not (i_var _)).1 h))) b0) q0 c0 (by (try rw [w16]);all_goals exact H)
 ·have H:=H.2 d3
  exact path_re (G:=given kp18 [] []) 1000 [false] (vb true) (by kernel_rfl) (bc (beq_f (fun h => d3 (i2.1 h))) b0) q0 c0 H
end Go.Av

namespace Go.Av
open Go.Proofs
def Bk.key (b:Bk):Bool × List Wo × List UInt8:=(b.sk,b.ws,b.cm)
namespace Sp
def foldB (ws:List Wo):Bool:=!(mkB ws) && (!(letB ws 78) && !(hasW ws 77 98000))
def bgV (sk:Bool) (ws:List Wo) (cm:List UInt8):Int:=if plB sk ws cm = true /\ (ws.getD 0 default).l = 79 then whV (ws.getD 0 default).v else 0
def bgB (sk:Bool) (ws:List Wo) (cm:List UInt8):Bool:=if plB sk ws cm = true /\ (ws.getD 0 default).l = 79 then whB (ws.getD 0 default).v else false
def same (b c:Bk):Bool:=eqB b.sk c.sk b.ws c.ws b.cm c.cm
def sameL (l q:List Bk):Bool:=decide (l.map Bk.key = q.map Bk.key)
def okBs (l:List Bk):Prop:=l.length <= 1000000 /\ ∀ b ∈ l,okW b.ws
end Sp
theorem same_iff {b c:Bk}:Sp.same b c = true ↔ b.key = c.key:=by
 unfold Sp.same Sp.eqB Bk.key
 simp only [decide_eq_true_eq,Prod.mk.injEq]
 exact ⟨fun ⟨h1,h2,h3⟩ => ⟨h1,h3,h2⟩,fun ⟨h1,h2,h3⟩ => ⟨h1,h3,h2⟩⟩
theorem suSm_loop {g h:Bool} {l q:List Bk} {dq:AV} (hk:Sp.okBs l) (he:l.length = q.length):∀ (k i:Nat),i + k = l.length -> AV.bool (Sp.sameL (l.drop i) (q.drop i)) = dq -> suSma_at g h l q i (PureQ dq):=by
 have hl:=hk.1
 intro k
 induction k with
 | zero =>
  intro i hi hq
  rw [List.drop_eq_nil_of_le (by omega),List.drop_eq_nil_of_le (by omega)] at hq
  exact suSma _ _ _ _ _ _ ⟨fun h => by omega,fun _ => hq⟩
 | succ k ih =>
  intro i hi hq
  have hm:=hk.2 _ (getD_mem (show i < l.length by omega))
  rw [drop_getD (show i < l.length by omega),drop_getD (show i < q.length by omega)] at hq
  unfold Sp.sameL at hq
  rw [List.map_cons,List.map_cons] at hq
  refine suSma _ _ _ _ _ _ ⟨fun _ => ?_,fun h => by omega⟩
  rw [Int.toNat_natCast]
  refine ⟨hm.1,by omega,by omega,by omega,fun h => ?_,fun h => ⟨by omega,ih (i + 1) (by omega) ?_⟩⟩
  ·rw [decide_eq_false (fun e => h (same_iff.2 (List.cons.inj e).1))] at hq
   exact hq
  ·rw [<- hq]
   congr 1
   unfold Sp.sameL
   rw [decide_eq_decide]
   have:=same_iff.1 (Classical.not_not.1 h)
   rw [this];simp
theorem ev18 (g h:Bool) (l q:List Bk) (hk:Sp.okBs l):Ev M1 (.pure 18 [bsA g l,bsA h q]) (.bool (Sp.sameL l q)) []:=by
 refine call18 (suSm g h l q _ ⟨fun k => ?_,fun k => suSm_loop hk (by omega) l.length 0 (by omega) rfl⟩)
 unfold Sp.sameL
 rw [decide_eq_false (fun e => k (by have:=congrArg List.length e;simp only [List.length_map] at this;omega))]
end Go.Av

namespace Go.Av
open Go.Proofs
set_option maxRecDepth 100000
end Go.Av

namespace Go.Av
open Go.Proofs
namespace Sp
def rn (l:List Bk) (i k:Nat) (j:Nat):Bool:=foldB (l.getD (i + j) default).ws && same (l.getD (i + j) default) (l.getD (k + j) default)
def runB (l:List Bk) (i k n:Int):Bool:=(List.range' 0 n.toNat).all (rn l i.toNat k.toNat)
def runR (l:List Bk) (i k n:Int):Bool:=if k + n > (l.length:Int) then false else runB l i k n
end Sp
end Go.Av

namespace Go.Av
open Go.Proofs
set_option maxRecDepth 100000
def fi22:Fi:=⟨8,[.tmp 2]⟩
def kp22:List (Nat × List Nat):=[(0,[0]),(1,[0,4]),(2,[2]),(3,[2])]
def suKe_at (g:Bool) (Q:AV -> Heap -> Prop):Prop:=Wp M1 (.run fi22 (atC (cd Try.f22) []) [(0,.vec g 3 [])] []) Q
def suKc_at (g:Bool) (y:Bk) (l:List Bk) (Q:AV -> Heap -> Prop):Prop:=Wp M1 (.run fi22 (atC (cd Try.f22) []) [(0,.vec g 3 ((y :: l).map Bk.a))] []) Q
theorem call22 {args:List AV} {d:AV} (h:wc M1 fi22 Try.f22 args d):Ev M1 (.pure 22 args) d []:=pcl _ _ (by kernel_rfl) h
theorem suKe (g:Bool)  (dq:AV) (H :
  (Weak (AV.vnil) dq) /\
  (Weak (AV.vec true 3 []) dq)) :
 suKe_at g (PureQ dq):=by
 unfold suKe_at
 refine path_wp (G:=given kp22 [] []) 4 [] ⟨(atC (cd Try.f22) [1,0,0]),[(0,AV.vec g 3 [])],[],_,[],_⟩ (by kernel_rfl) b0 q0 c0 (wp_nil 1 [0,4] (e1:=[(0,AV.vec g 3 []),(4,vb true)]) (e2:=[(0,AV.vec g 3 []),(4,vb false)]) (L1:=[]) (L2:=[]) (a1:=[]) (a2:=[]) (v1:=[(4,[],vb true),(3,[],AV.vec g 3 []),(0,[],AV.vec g 3 [])]) (v2:=[(4,[],vb false),(3,[],AV.vec g 3 []),(0,[],AV.vec g 3 [])]) (by kernel_rfl) (by kernel_rfl) allB_nil allB_nil (by kernel_rfl) (by kernel_rfl) ?_ ?_)
 ·have H:=H.1
  exact path_rq (G:=given kp22 [] []) 1000 [true] (AV.vnil) (by kernel_rfl) (bc rfl b0) q0 c0 H
 ·have H:=H.2
  exact path_rq (G:=given kp22 [] []) 1000 [false] (AV.vec true 3 []) (by kernel_rfl) (bc rfl b0) q0 c0 H
theorem suKc (g:Bool) (y:Bk) (l:List Bk)  (dq:AV) (H :
  ((0 + (l.length + 1)) * 48 <= 1099511627776) /\
  Weak (AV.vec false 3 (ag [vb y.1,AV.vec y.2 2 (List.map Wo.a y.3),AV.str y.4] :: List.map Bk.a l)) dq) :
 suKc_at g y l (PureQ dq):=by
 unfold suKc_at
 have w1:(List.map Bk.a l).length = l.length:=List.length_map ..
 have i2:(decide ((0 + ((List.map Bk.a l).length + 1)) * 48 <= 1099511627776)) = true ↔ ((0 + (l.length + 1)) * 48 <= 1099511627776):=(by (try rw [w1]);all_goals exact i_dec)
 obtain ⟨k3,H⟩:=H
 exact path_ret (G:=given kp22 [] []) 1000 [false] (k:=((atC (cd Try.f22) [1,1,1])).tail) (env':=[(2,AV.row 0 0)]) (L':=[⟨ag [vb y.1,AV.vec y.2 2 (List.map Wo.a y.3),AV.str y.4] :: List.map Bk.a l,3,0,false,true⟩]) (asm:=[false == false,decide ((0 + ((List.map Bk.a l).length + 1)) * 48 <= 1099511627776)]) (eqs:=[]) (calls:=[]) (AV.row 0 0) (by kernel_rfl) (by kernel_rfl) (allB_cons rfl (allB_cons (i2.2 k3) allB_nil)) allP_nil allC_nil (pq_weak (d:=(AV.vec false 3 (ag [vb y.1,AV.vec y.2 2 (List.map Wo.a y.3),AV.str y.4] :: List.map Bk.a l))) (bs:=[0 == 0]) (by kernel_rfl) (by kernel_rfl) (allB_cons (beq_self_eq_true _) allB_nil) (by kernel_rfl) H)
end Go.Av

namespace Go.Av
open Go.Proofs
theorem ev22 (g:Bool) (l:List Bk) (h:Sp.few6 l.length):Ev M1 (.pure 22 [bsA g l]) (bsA false l) []:=by
 unfold Sp.few6 at h
 cases l with
 | nil => exact call22 (suKe g _ ⟨.vnil 3,.full 3 []⟩)
 | cons y l => exact call22 (suKc g y l _ ⟨by simp at h;omega,.refl _⟩)
namespace Sp
def hasRun (l:List Bk) (n i:Nat):Nat -> Nat -> Bool
 | 0,_ => false
 | c + 1,k => runB l i k n || hasRun l n i c (k + 1)
def findF (l:List Bk) (n:Nat):Nat -> Nat -> Int
 | 0,_ => -1
 | c + 1,i => if hasRun l n i (l.length + 1 - (i + 2 * n)) (i + n) = true then i else findF l n c (i + 1)
def fst (l:List Bk) (n:Int):Int:=findF l n.toNat (l.length + 1 - 2 * n.toNat) 0
end Sp
end Go.Av

namespace Go.Av
open Go.Proofs
set_option maxRecDepth 100000
end Go.Av

namespace Go.Av
open Go.Proofs
abbrev sbA (g:Bool) (s:List Sb):AV:=.vec g 2 (s.map Sb.a)
namespace Sp
def callB (m:Int):Bk:=⟨false,true,[⟨77,98000⟩,⟨80,1000 * m⟩],[]⟩
def build (l:List Bk) (m:Int) (n a:Nat):Nat -> Nat -> List Bk
 | 0,_ => []
 | f + 1,i => if i < l.length then (if runR l a i n = true then callB m :: build l m n a f (i + n) else l.getD i default :: build l m n a f (i + 1)) else []
end Sp
theorem weak_tup2' {a a' b:AV} (h:Weak a a'):Weak (.tup [a,b]) (.tup [a',b]):=by
 refine .tup _ _ rfl fun i x y hx hy => ?_
 match i with
 | 0 => simp at hx hy;subst hx;subst hy;exact h
 | 1 => simp at hx hy;subst hx;subst hy;exact .refl _
 | i + 2 => simp at hx
theorem weak_agg2 {a a' b b':AV} (h:Weak a a') (k:Weak b b'):Weak (.agg [a,b]) (.agg [a',b']):=by
 refine .agg _ _ rfl fun i x y hx hy => ?_
 match i with
 | 0 => simp at hx hy;subst hx;subst hy;exact h
 | 1 => simp at hx hy;subst hx;subst hy;exact k
 | i + 2 => simp at hx
end Go.Av

namespace Go.Av
open Go.Proofs
set_option maxRecDepth 100000
def fi23:Fi:=⟨106,[.cell 6 34,.tmp 7]⟩
end Go.Av

namespace Go.Av
open Go.RowKit
mutual
def meltA (L:Heap) (fs:List Nat):AV -> AV
 | .row r v => bif fs.contains r then (match L[r]? with
  | some row => bif row.clean then .vec false row.es row.elems else .row r v
  | none => .row r v) else .row r v
 | .agg cs => .agg (meltL L fs cs)
 | .tup cs => .tup (meltL L fs cs)
 | .any => .any | .bool b => .bool b | .int k n => .int k n | .str s => .str s | .flt b => .flt b | .nilp => .nilp | .vnil => .vnil | .nilf => .nilf | .nilm => .nilm
 | .ptr r v i j => .ptr r v i j | .eptr es xs i j => .eptr es xs i j | .vec f es xs => .vec f es xs | .ref r v lo len => .ref r v lo len | .func fn a b => .func fn a b | .mapr r => .mapr r
def meltL (L:Heap) (fs:List Nat):List AV -> List AV
 | [] => []
 | c :: r => meltA L fs c :: meltL L fs r
end
mutual
def meltT (L:Heap) (fs:List Nat):AV -> List Bool
 | .row r v => bif fs.contains r then (match L[r]? with
  | some row => [row.ver == v]
  | none => []) else []
 | .agg cs => meltTL L fs cs
 | .tup cs => meltTL L fs cs
 | _ => []
def meltTL (L:Heap) (fs:List Nat):List AV -> List Bool
 | [] => []
 | c :: r => meltT L fs c ++ meltTL L fs r
end
theorem relabel {S:St} (hS:HeapOk S) {K:Heap} (hl:K.length = S.L.length) (hK:∀ (r:Nat) row,S.L[r]? = some row -> ∃ row',K[r]? = some row' /\ row'.ver = row.ver /\ row'.elems.length = row.elems.length /\ row'.frozen = row.frozen):Ext S ⟨S.base,S.acc,K,S.β,S.w⟩:=by
 refine ⟨rfl,rfl,fun b off hi _ => ⟨⟨hi.1,fun q info hq he => ?_⟩,rfl⟩,fun q x y h1 h2 => ?_,Below.refl _ _,fun q x h => .inl ⟨q,x,h,rfl⟩,fun _ _ _ _ => rfl⟩
 ·obtain ⟨x0,a1,a2,a3,a4⟩:=hi.2 q info hq he
  obtain ⟨x,b1,_,b3,b4⟩:=hK q x0 a1
  exact ⟨x,b1,b4.trans a2,a3,by rw [b3];exact a4⟩
 ·obtain ⟨x',b1,b2,b3,_⟩:=hK q x h1
  exact ⟨x',y,b1,h2,Nat.le_of_eq b2.symm,fun _ => ⟨rfl,fun _ => b3⟩,rfl,fun _ => rfl⟩
end Go.Av

namespace Go.Av
open Go.Proofs
noncomputable def ops20:Array Oper:=match atC (cd Try.f23) [1,1,0,1,0,0,1,0,0,1,1,1,1,1,0] with
 | .code (.region _ ops _) :: _ => ops
 | _ => #[]
noncomputable def st20 (g:Bool) (l:List AV) (m n i j:Int) (b:Bool) (q:List AV) (v:Nat):RS:=⟨lift [(0,AV.vec g 3 l),(1,.int .i64 m),(2,.int .i64 n),(6,AV.ptr 0 0 0 0),(8,.int .i64 i),(11,AV.ptr 1 0 0 0),(12,.int .i64 j),(57,AV.bool b)],[{ elems:=[AV.agg [AV.vnil,AV.vnil]],es:=2,ver:=0,frozen:=false,clean:=false },{ elems:=[AV.agg [AV.row 2 v,AV.vnil]],es:=2,ver:=0,frozen:=false,clean:=false },{ elems:=q,es:=3,ver:=v,frozen:=false,clean:=true }],[],[],[]⟩
noncomputable def s20 (g:Bool) (l:List AV) (m n i j:Int) (b:Bool) (q:List AV) (v:Nat):RS:=(runOps M1.P M1.inl (fun _ _ _ => none) fi23.n ops20 (keepAns [10]) (fun _ => 2) (List.range 8) (st20 g l m n i j b q v)).getD ⟨[],[],[],[],[]⟩
noncomputable def r20 (g:Bool) (l:List AV) (m n i j:Int) (b:Bool) (q:List AV) (v:Nat) (D:List AV):Option RS:=runOps M1.P M1.inl (fun _ _ _ => none) fi23.n ops20 (keepAns [10]) (fun _ => 2) [8,9,10,11,12] ⟨(96,[],.vec (g && false) 3 D) :: (s20 g l m n i j b q v).env.tail,(s20 g l m n i j b q v).L,(s20 g l m n i j b q v).asm,[],[]⟩
noncomputable def f20 (g:Bool) (l:List AV) (m n i j:Int) (b:Bool) (q:List AV) (v:Nat) (y:AV) (ys:List AV):RS:=(r20 g l m n i j b q v (y :: ys)).getD ⟨[],[],[],[],[]⟩
end Go.Av

namespace Go.Av
open Go.Proofs
end Go.Av

namespace Go.Av
open Go.Proofs
set_option maxRecDepth 100000
end Go.Av

namespace Go.Av
open Go.Proofs
abbrev pgA (g h:Bool) (l:List Bk) (s:List Sb):AV:=.agg [bsA g l,sbA h s]
def Sb.key (s:Sb):Int × List (Bool × List Wo × List UInt8):=(s.n,s.bl.map Bk.key)
namespace Sp
end Sp
end Go.Av

namespace Go.Av
open Go.Proofs
set_option maxRecDepth 100000
end Go.Av

namespace Go.Av
open Go.Proofs
theorem okBs_sub {l:List Bk} (h:Sp.okBs l) (a b:Nat):Sp.okBs ((l.take b).drop a):=by
 obtain ⟨h1,h2⟩:=h
 refine ⟨by simp;omega,fun x hx => h2 x (List.mem_of_mem_take (List.mem_of_mem_drop hx))⟩
theorem vals_okBs {l:List Bk} {m:Int} (h:Sp.vals l m = true) (hm:m <= 1000000):Sp.okBs l:=by
 obtain ⟨h1,h2⟩:=vals_at h
 exact ⟨by omega,fun b hb => valB_okW (h2 b hb)⟩
end Go.Av

namespace Go.Av
open Go.Proofs
set_option maxRecDepth 100000
end Go.Av

namespace Go.Av
open Go.Proofs
namespace Sp
def pEnd (b:Bk):Bool:=endB b.ws
def pStop (b:Bk):Bool:=plB b.sk b.ws b.cm && backB b.ws
def pMk (b:Bk):Bool:=mkB b.ws
def idxF {α:Type} (p:α -> Bool):List α -> Int -> Int
 | [],_ => -1
 | b :: r,i => if p b = true then i else idxF p r (i + 1)
def idxP {α:Type} (p:α -> Bool) (l:List α):Int:=idxF p l 0
def anyP {α:Type} (p:α -> Bool) (l:List α):Bool:=l.any p
end Sp
theorem idxF_ge {α:Type} (p:α -> Bool):∀ (l:List α) (i:Int),0 <= i -> (Sp.idxF p l i = -1 /\ l.any p = false) \/ (i <= Sp.idxF p l i /\ Sp.idxF p l i < i + l.length /\ l.any p = true)
 | [],i,_ => .inl ⟨rfl,rfl⟩
 | b :: r,i,hi => by
  rw [Sp.idxF,List.any_cons]
  cases hb:p b with
  | true => right;simp;omega
  | false =>
   rw [if_neg (by simp),Bool.false_or]
   rcases idxF_ge p r (i + 1) (by omega) with ⟨h1,h2⟩ | ⟨h1,h2,h3⟩
   ·exact .inl ⟨h1,h2⟩
   ·right;simp only [List.length_cons];exact ⟨by omega,by omega,h3⟩
end Go.Av

namespace Go.Av
open Go.Proofs
set_option maxRecDepth 100000
def fi56:Fi:=⟨19,[.tmp 4]⟩
def kp56:List (Nat × List Nat):=[(0,[0,1]),(1,[0,1,7,8]),(2,[0,1,7,8,9]),(3,[0,1,5,7,8]),(4,[0,1,5,7,8,16]),(5,[4]),(6,[0,1,7,8]),(7,[4])]
def svIm_at (g:Bool) (l:List Bk) (Q:AV -> Heap -> Prop):Prop:=Wp M1 (.run fi56 (atC (cd Try.f56) []) [(0,.vec g 3 (l.map Bk.a)),(1,.func (.func 77) [] [])] []) Q
def svIma_at (g:Bool) (l:List Bk) (n i:Int) (Q:AV -> Heap -> Prop):Prop:=Wp M1 (.run fi56 (atC (cd Try.f56) [1,0,1,0,0]) [(0,.vec g 3 (l.map Bk.a)),(1,.func (.func 77) [] []),(7,.int .i64 n),(8,.int .i64 i)] []) Q
theorem call56 {args:List AV} {d:AV} (h:wc M1 fi56 Try.f56 args d):Ev M1 (.pure 56 args) d []:=pcl _ _ (by kernel_rfl) h
theorem svIm (g:Bool) (l:List Bk)  (dq:AV) (H :
  svIma_at (g) (l) ((↑l.length:Int)) (0) (PureQ dq)) :
 svIm_at g l (PureQ dq):=by
 unfold svIm_at
 have w1:(List.map Bk.a l).length = l.length:=List.length_map ..
 exact path_wp (G:=given kp56 [] []) 1000 [] ⟨(atC (cd Try.f56) [1,0,1,0,0]),[(0,AV.vec g 3 (List.map Bk.a l)),(1,AV.func (Fn.func 77) [] []),(7,vi (↑(List.map Bk.a l).length:Int)),(8,vi 0)],[],_,[],_⟩ (by kernel_rfl) b0 q0 c0 (by (try rw [w1]);all_goals exact H)
theorem svIma (g:Bool) (l:List Bk) (n i:Int)  (dq:AV) (H :
  ((i < n) -> (Sp.few6 (l.getD i.toNat default).3.length) /\
   (0 <= i) /\
   (i.toNat < l.length) /\
   ((Sp.mkB (l.getD i.toNat default).3 = true) -> vi i = dq) /\
   (¬(Sp.mkB (l.getD i.toNat default).3 = true) -> (-9223372036854775808 <= i + 1 /\ i + 1 <= 9223372036854775807) /\
    svIma_at (g) (l) (n) (i + 1) (PureQ dq))) /\
  (¬(i < n) -> vi (-1) = dq)) :
 svIma_at g l n i (PureQ dq):=by
 unfold svIma_at
 rcases xm (i < n) with d2 | d2
 ·have H:=H.1 d2
  obtain ⟨k3,H⟩:=H
  obtain ⟨k5,H⟩:=H
  have w6:(List.map Bk.a l).length = l.length:=List.length_map ..
  have i7:(decide (i.toNat < (List.map Bk.a l).length)) = true ↔ (i.toNat < l.length):=(by (try rw [w6]);all_goals exact i_dec)
  obtain ⟨k8,H⟩:=H
  refine path_wp (G:=given kp56 [(4,4,.elem (ag [vb (l.getD i.toNat default).1,AV.vec (l.getD i.toNat default).2 2 (List.map Wo.a (l.getD i.toNat default).3),AV.str (l.getD i.toNat default).4])),(4,5,.call (vb (Sp.mkB (l.getD i.toNat default).3)) none)] []) 11 [true] ⟨(atC (cd Try.f56) [1,0,1,0,0,1,1,0,0,1,1]),[(0,AV.vec g 3 (List.map Bk.a l)),(1,AV.func (Fn.func 77) [] []),(5,vi i),(7,vi n),(8,vi i),(16,vb (Sp.mkB (l.getD i.toNat default).3))],[],_,[((List.map Bk.a l).get?Internal i.toNat = some (ag [vb (l.getD i.toNat default).1,AV.vec (l.getD i.toNat default).2 2 (List.map Wo.a (l.getD i.toNat default).3),AV.str (l.getD i.toNat default).4]))],_⟩ (by kernel_rfl) (bc (beq_t (i_dec.2 d2)) (bc (i_dec.2 k5) (bc (i7.2 k8) b0))) (qc (el_map k8) q0) (ce (@ev77 ((l.getD i.toNat default).1) ((l.getD i.toNat default).2) ((l.getD i.toNat default).3) ((l.getD i.toNat default).4) k3) c0) ?_
  rcases xm (Sp.mkB (l.getD i.toNat default).3 = true) with d10 | d10
  ·have H:=H.1 d10
   exact path_re (G:=given kp56 [] []) 1000 [true] (asm:=[(Sp.mkB (l.getD i.toNat default).3) == true]) (vi i) (by kernel_rfl) (bc (beq_t ((i_var _).2 d10)) b0) q0 c0 H
  ·have H:=H.2 d10
   obtain ⟨k11,H⟩:=H
   have w12:wi (i + 1) = i + 1:=wI64 k11
   exact path_wp (G:=given kp56 [] []) 1000 [false] ⟨(atC (cd Try.f56) [1,0,1,0,0]),[(0,AV.vec g 3 (List.map Bk.a l)),(1,AV.func (Fn.func 77) [] []),(7,vi n),(8,vi (wi (i + 1)))],[],[(Sp.mkB (l.getD i.toNat default).3) == false],[],_⟩ (by kernel_rfl) (bc (beq_f (fun h => d10 ((i_var _).1 h))) b0) q0 c0 (by (try rw [w12]);all_goals exact H)
 ·have H:=H.2 d2
  exact path_re (G:=given kp56 [] []) 1000 [false] (vi (-1)) (by kernel_rfl) (bc (beq_f (fun h => d2 (i_dec.1 h))) b0) q0 c0 H
end Go.Av

namespace Go.Av
open Go.Proofs
theorem svIm_loop {g:Bool} {l:List Bk} {dq:AV} (hk:Sp.okBs l):∀ (c i:Nat),i + c = l.length -> AV.int .i64 (Sp.idxF Sp.pMk (l.drop i) i) = dq -> svIma_at g l l.length i (PureQ dq):=by
 have hl:=hk.1
 intro c
 induction c with
 | zero =>
  intro i hi hq
  rw [List.drop_eq_nil_of_le (by omega)] at hq
  exact svIma _ _ _ _ _ ⟨fun h => by omega,fun _ => hq⟩
 | succ c ih =>
  intro i hi hq
  have hm:=hk.2 _ (getD_mem (show i < l.length by omega))
  rw [drop_getD (show i < l.length by omega),Sp.idxF] at hq
  refine svIma _ _ _ _ _ ⟨fun _ => ?_,fun h => by omega⟩
  rw [Int.toNat_natCast]
  refine ⟨hm.1,by omega,by omega,fun h => ?_,fun h => ⟨by omega,ih (i + 1) (by omega) ?_⟩⟩
  ·rw [if_pos (show Sp.pMk (l.getD i default) = true from h)] at hq
   exact hq
  ·rw [if_neg (show ¬Sp.pMk (l.getD i default) = true from h)] at hq
   exact hq
theorem ev56_c (g:Bool) (l:List Bk) (hk:Sp.okBs l):Ev M1 (.pure 56 [bsA g l,.func (.func 77) [] []]) (.int .i64 (Sp.idxP Sp.pMk l)) []:=
 call56 (svIm g l _ (svIm_loop hk l.length 0 (by omega) rfl))
end Go.Av

namespace Go.Av
open Go.Proofs
set_option maxRecDepth 100000
def fi27:Fi:=⟨9,[.tmp 4]⟩
def kp27:List (Nat × List Nat):=[(0,[0,1]),(1,[4])]
def svXm_at (g:Bool) (l:List Bk) (Q:AV -> Heap -> Prop):Prop:=Wp M1 (.run fi27 (atC (cd Try.f27) []) [(0,.vec g 3 (l.map Bk.a)),(1,.func (.func 77) [] [])] []) Q
theorem call27 {args:List AV} {d:AV} (h:wc M1 fi27 Try.f27 args d):Ev M1 (.pure 27 args) d []:=pcl _ _ (by kernel_rfl) h
theorem svXm (g:Bool) (l:List Bk)  (dq:AV) (H :
  (Sp.okBs l) /\
  vb (decide (Sp.idxP Sp.pMk l >= 0)) = dq) :
 svXm_at g l (PureQ dq):=by
 unfold svXm_at
 obtain ⟨k1,H⟩:=H
 exact path_re (G:=given kp27 [(1,2,.call (vi (Sp.idxP Sp.pMk l)) none)] []) 1000 [] (vb (decide (Sp.idxP Sp.pMk l >= 0))) (by kernel_rfl) b0 q0 (ce (@ev56_c (g) (l) k1) c0) H
end Go.Av

namespace Go.Av
open Go.Proofs
theorem any_idx {α:Type} (p:α -> Bool) (l:List α):decide (Sp.idxP p l >= 0) = Sp.anyP p l:=by
 unfold Sp.idxP Sp.anyP
 rcases idxF_ge p l 0 (by omega) with ⟨h1,h2⟩ | ⟨h1,h2,h3⟩
 ·rw [h1,h2];rfl
 ·rw [h3];exact decide_eq_true h1
theorem ev27_a (g:Bool) (l:List Bk) (hk:Sp.okBs l):Ev M1 (.pure 27 [bsA g l,.func (.func 77) [] []]) (.bool (Sp.anyP Sp.pMk l)) []:=
 call27 (svXm g l _ ⟨hk,congrArg AV.bool (any_idx ..)⟩)
end Go.Av

namespace Go.Av
open Go.Proofs
set_option maxRecDepth 100000
def fi79:Fi:=⟨6,[.tmp 2]⟩
def kp79:List (Nat × List Nat):=[(0,[1]),(1,[2])]
def fi80:Fi:=⟨9,[.tmp 3]⟩
def kp80:List (Nat × List Nat):=[(0,[1,2]),(1,[3])]
def svO1_at (n:Int) (f:Bool) (l:List Bk) (Q:AV -> Heap -> Prop):Prop:=Wp M1 (.run fi79 (atC (cd Try.f79) []) [(0,.agg [.int .i64 n,.vec f 3 (l.map Bk.a)])] []) Q
def svR1_at (n m:Int) (f g:Bool) (l q:List Bk) (Q:AV -> Heap -> Prop):Prop:=Wp M1 (.run fi80 (atC (cd Try.f80) []) [(0,.agg [.int .i64 n,.vec f 3 (l.map Bk.a)]),(1,.eptr 2 [.agg [.int .i64 m,.vec g 3 (q.map Bk.a)]] 0 0)] []) Q
theorem call79 {args:List AV} {d:AV} (h:wc M1 fi79 Try.f79 args d):Ev M1 (.pure 79 args) d []:=pcl _ _ (by kernel_rfl) h
theorem call80 {args:List AV} {d:AV} (h:wc M1 fi80 Try.f80 args d):Ev M1 (.pure 80 args) d []:=pcl _ _ (by kernel_rfl) h
theorem svO1 (n:Int) (f:Bool) (l:List Bk)  (dq:AV) (H :
  (Sp.okBs l) /\
  vb (Sp.anyP Sp.pMk l) = dq) :
 svO1_at n f l (PureQ dq):=by
 unfold svO1_at
 obtain ⟨k1,H⟩:=H
 exact path_re (G:=given kp79 [(1,2,.call (vb (Sp.anyP Sp.pMk l)) none)] []) 1000 [] (vb (Sp.anyP Sp.pMk l)) (by kernel_rfl) (bc rfl b0) q0 (ce (@ev27_a (f) (l) k1) c0) H
theorem svR1 (n m:Int) (f g:Bool) (l q:List Bk)  (dq:AV) (H :
  vb (m == n) = dq) :
 svR1_at n m f g l q (PureQ dq):=by
 unfold svR1_at
 exact path_re (G:=given kp80 [] []) 1000 [] (vb (m == n)) (by kernel_rfl) (bc rfl b0) q0 c0 H
end Go.Av

namespace Go.Av
open Go.Proofs
namespace Sp
def eqI (m n:Int):Bool:=m == n
def sMk (s:Sb):Bool:=anyP pMk s.bl
def sIs (m:Int) (s:Sb):Bool:=eqI m s.n
end Sp
theorem ev79 (n:Int) (f:Bool) (l:List Bk) (hk:Sp.okBs l):Ev M1 (.pure 79 [.agg [.int .i64 n,.vec f 3 (l.map Bk.a)]]) (.bool (Sp.anyP Sp.pMk l)) []:=
 call79 (svO1 n f l _ ⟨hk,rfl⟩)
theorem ev80 (n m:Int) (f g:Bool) (l q:List Bk):Ev M1 (.pure 80 [.agg [.int .i64 n,.vec f 3 (l.map Bk.a)],.eptr 2 [.agg [.int .i64 m,.vec g 3 (q.map Bk.a)]] 0 0]) (.bool (Sp.eqI m n)) []:=
 call80 (svR1 n m f g l q _ rfl)
end Go.Av

namespace Go.Av
open Go.Proofs
set_option maxRecDepth 100000
def fi86:Fi:=⟨19,[.tmp 4]⟩
def kp86:List (Nat × List Nat):=[(0,[0,1]),(1,[0,1,7,8]),(2,[0,1,7,8,9]),(3,[0,1,5,7,8]),(4,[0,1,5,7,8,16]),(5,[4]),(6,[0,1,7,8]),(7,[4])]
def svJo_at (h:Bool) (s:List Sb) (Q:AV -> Heap -> Prop):Prop:=Wp M1 (.run fi86 (atC (cd Try.f86) []) [(0,.vec h 2 (s.map Sb.a)),(1,.func (.func 79) [] [])] []) Q
def svJoa_at (h:Bool) (s:List Sb) (n i:Int) (Q:AV -> Heap -> Prop):Prop:=Wp M1 (.run fi86 (atC (cd Try.f86) [1,0,1,0,0]) [(0,.vec h 2 (s.map Sb.a)),(1,.func (.func 79) [] []),(7,.int .i64 n),(8,.int .i64 i)] []) Q
def svJr_at (h:Bool) (s:List Sb) (m:Int) (f:Bool) (q:List Bk) (Q:AV -> Heap -> Prop):Prop:=Wp M1 (.run fi86 (atC (cd Try.f86) []) [(0,.vec h 2 (s.map Sb.a)),(1,.func (.func 80) [] [.eptr 2 [.agg [.int .i64 m,.vec f 3 (q.map Bk.a)]] 0 0])] []) Q
def svJra_at (h:Bool) (s:List Sb) (m:Int) (f:Bool) (q:List Bk) (n i:Int) (Q:AV -> Heap -> Prop):Prop:=Wp M1 (.run fi86 (atC (cd Try.f86) [1,0,1,0,0]) [(0,.vec h 2 (s.map Sb.a)),(1,.func (.func 80) [] [.eptr 2 [.agg [.int .i64 m,.vec f 3 (q.map Bk.a)]] 0 0]),(7,.int .i64 n),(8,.int .i64 i)] []) Q
theorem call86 {args:List AV} {d:AV} (h:wc M1 fi86 Try.f86 args d):Ev M1 (.pure 86 args) d []:=pcl _ _ (by kernel_rfl) h
theorem svJo (h:Bool) (s:List Sb)  (dq:AV) (H :
  svJoa_at (h) (s) ((↑s.length:Int)) (0) (PureQ dq)) :
 svJo_at h s (PureQ dq):=by
 unfold svJo_at
 have w1:(List.map Sb.a s).length = s.length:=List.length_map ..
 exact path_wp (G:=given kp86 [] []) 1000 [] ⟨(atC (cd Try.f86) [1,0,1,0,0]),[(0,AV.vec h 2 (List.map Sb.a s)),(1,AV.func (Fn.func 79) [] []),(7,vi (↑(List.map Sb.a s).length:Int)),(8,vi 0)],[],_,[],_⟩ (by kernel_rfl) b0 q0 c0 (by (try rw [w1]);all_goals exact H)
theorem svJoa (h:Bool) (s:List Sb) (n i:Int)  (dq:AV) (H :
  ((i < n) -> (Sp.okBs (s.getD i.toNat default).3) /\
   (0 <= i) /\
   (i.toNat < s.length) /\
   ((Sp.anyP Sp.pMk (s.getD i.toNat default).3 = true) -> vi i = dq) /\
   (¬(Sp.anyP Sp.pMk (s.getD i.toNat default).3 = true) -> (-9223372036854775808 <= i + 1 /\ i + 1 <= 9223372036854775807) /\
    svJoa_at (h) (s) (n) (i + 1) (PureQ dq))) /\
  (¬(i < n) -> vi (-1) = dq)) :
 svJoa_at h s n i (PureQ dq):=by
 unfold svJoa_at
 rcases xm (i < n) with d2 | d2
 ·have H:=H.1 d2
  obtain ⟨k3,H⟩:=H
  obtain ⟨k5,H⟩:=H
  have w6:(List.map Sb.a s).length = s.length:=List.length_map ..
  have i7:(decide (i.toNat < (List.map Sb.a s).length)) = true ↔ (i.toNat < s.length):=(by (try rw [w6]);all_goals exact i_dec)
  obtain ⟨k8,H⟩:=H
  refine path_wp (G:=given kp86 [(4,4,.elem (ag [vi (s.getD i.toNat default).n,AV.vec (s.getD i.toNat default).2 3 (List.map Bk.a (s.getD i.toNat default).3)])),(4,5,.call (vb (Sp.anyP Sp.pMk (s.getD i.toNat default).3)) none)] []) 11 [true] ⟨(atC (cd Try.f86) [1,0,1,0,0,1,1,0,0,1,1]),[(0,AV.vec h 2 (List.map Sb.a s)),(1,AV.func (Fn.func 79) [] []),(5,vi i),(7,vi n),(8,vi i),(16,vb (Sp.anyP Sp.pMk (s.getD i.toNat default).3))],[],_,[((List.map Sb.a s).get?Internal i.toNat = some (ag [vi (s.getD i.toNat default).n,AV.vec (s.getD i.toNat default).2 3 (List.map Bk.a (s.getD i.toNat default).3)]))],_⟩ (by kernel_rfl) (bc (beq_t (i_dec.2 d2)) (bc (i_dec.2 k5) (bc (i7.2 k8) b0))) (qc (el_map k8) q0) (ce (@ev79 ((s.getD i.toNat default).n) ((s.getD i.toNat default).2) ((s.getD i.toNat default).3) k3) c0) ?_
  rcases xm (Sp.anyP Sp.pMk (s.getD i.toNat default).3 = true) with d10 | d10
  ·have H:=H.1 d10
   exact path_re (G:=given kp86 [] []) 1000 [true] (asm:=[(Sp.anyP Sp.pMk (s.getD i.toNat default).3) == true]) (vi i) (by kernel_rfl) (bc (beq_t ((i_var _).2 d10)) b0) q0 c0 H
  ·have H:=H.2 d10
   obtain ⟨k11,H⟩:=H
   have w12:wi (i + 1) = i + 1:=wI64 k11
   exact path_wp (G:=given kp86 [] []) 1000 [false] ⟨(atC (cd Try.f86) [1,0,1,0,0]),[(0,AV.vec h 2 (List.map Sb.a s)),(1,AV.func (Fn.func 79) [] []),(7,vi n),(8,vi (wi (i + 1)))],[],[(Sp.anyP Sp.pMk (s.getD i.toNat default).3) == false],[],_⟩ (by kernel_rfl) (bc (beq_f (fun h => d10 ((i_var _).1 h))) b0) q0 c0 (by (try rw [w12]);all_goals exact H)
 ·have H:=H.2 d2
  exact path_re (G:=given kp86 [] []) 1000 [false] (vi (-1)) (by kernel_rfl) (bc (beq_f (fun h => d2 (i_dec.1 h))) b0) q0 c0 H
theorem svJr (h:Bool) (s:List Sb) (m:Int) (f:Bool) (q:List Bk)  (dq:AV) (H :
  svJra_at (h) (s) (m) (f) (q) ((↑s.length:Int)) (0) (PureQ dq)) :
 svJr_at h s m f q (PureQ dq):=by
 unfold svJr_at
 have w1:(List.map Sb.a s).length = s.length:=List.length_map ..
 exact path_wp (G:=given kp86 [] []) 1000 [] ⟨(atC (cd Try.f86) [1,0,1,0,0]),[(0,AV.vec h 2 (List.map Sb.a s)),(1,AV.func (Fn.func 80) [] [AV.eptr 2 [ag [vi m,AV.vec f 3 (List.map Bk.a q)]] 0 0]),(7,vi (↑(List.map Sb.a s).length:Int)),(8,vi 0)],[],_,[],_⟩ (by kernel_rfl) b0 q0 c0 (by (try rw [w1]);all_goals exact H)
theorem svJra (h:Bool) (s:List Sb) (m:Int) (f:Bool) (q:List Bk) (n i:Int)  (dq:AV) (H :
  ((i < n) -> (0 <= i) /\
   (i.toNat < s.length) /\
   ((Sp.eqI m (s.getD i.toNat default).n = true) -> vi i = dq) /\
   (¬(Sp.eqI m (s.getD i.toNat default).n = true) -> (-9223372036854775808 <= i + 1 /\ i + 1 <= 9223372036854775807) /\
    svJra_at (h) (s) (m) (f) (q) (n) (i + 1) (PureQ dq))) /\
  (¬(i < n) -> vi (-1) = dq)) :
 svJra_at h s m f q n i (PureQ dq):=by
 unfold svJra_at
 rcases xm (i < n) with d2 | d2
 ·have H:=H.1 d2
  obtain ⟨k4,H⟩:=H
  have w5:(List.map Sb.a s).length = s.length:=List.length_map ..
  have i6:(decide (i.toNat < (List.map Sb.a s).length)) = true ↔ (i.toNat < s.length):=(by (try rw [w5]);all_goals exact i_dec)
  obtain ⟨k7,H⟩:=H
  refine path_wp (G:=given kp86 [(4,4,.elem (ag [vi (s.getD i.toNat default).n,AV.vec (s.getD i.toNat default).2 3 (List.map Bk.a (s.getD i.toNat default).3)])),(4,5,.call (vb (Sp.eqI m (s.getD i.toNat default).n)) none)] []) 11 [true] ⟨(atC (cd Try.f86) [1,0,1,0,0,1,1,0,0,1,1]),[(0,AV.vec h 2 (List.map Sb.a s)),(1,AV.func (Fn.func 80) [] [AV.eptr 2 [ag [vi m,AV.vec f 3 (List.map Bk.a q)]] 0 0]),(5,vi i),(7,vi n),(8,vi i),(16,vb (Sp.eqI m (s.getD i.toNat default).n))],[],_,[((List.map Sb.a s).get?Internal i.toNat = some (ag [vi (s.getD i.toNat default).n,AV.vec (s.getD i.toNat default).2 3 (List.map Bk.a (s.getD i.toNat default).3)]))],_⟩ (by kernel_rfl) (bc (beq_t (i_dec.2 d2)) (bc (i_dec.2 k4) (bc (i6.2 k7) b0))) (qc (el_map k7) q0) (ce (@ev80 ((s.getD i.toNat default).n) (m) ((s.getD i.toNat default).2) (f) ((s.getD i.toNat default).3) (q)) c0) ?_
  rcases xm (Sp.eqI m (s.getD i.toNat default).n = true) with d9 | d9
  ·have H:=H.1 d9
   exact path_re (G:=given kp86 [] []) 1000 [true] (asm:=[(Sp.eqI m (s.getD i.toNat default).n) == true]) (vi i) (by kernel_rfl) (bc (beq_t ((i_var _).2 d9)) b0) q0 c0 H
  ·have H:=H.2 d9
   obtain ⟨k10,H⟩:=H
   have w11:wi (i + 1) = i + 1:=wI64 k10
   exact path_wp (G:=given kp86 [] []) 1000 [false] ⟨(atC (cd Try.f86) [1,0,1,0,0]),[(0,AV.vec h 2 (List.map Sb.a s)),(1,AV.func (Fn.func 80) [] [AV.eptr 2 [ag [vi m,AV.vec f 3 (List.map Bk.a q)]] 0 0]),(7,vi n),(8,vi (wi (i + 1)))],[],[(Sp.eqI m (s.getD i.toNat default).n) == false],[],_⟩ (by kernel_rfl) (bc (beq_f (fun h => d9 ((i_var _).1 h))) b0) q0 c0 (by (try rw [w11]);all_goals exact H)
 ·have H:=H.2 d2
  exact path_re (G:=given kp86 [] []) 1000 [false] (vi (-1)) (by kernel_rfl) (bc (beq_f (fun h => d2 (i_dec.1 h))) b0) q0 c0 H
end Go.Av

namespace Go.Av
open Go.Proofs
theorem svJo_loop {h:Bool} {s:List Sb} {dq:AV} (hk:s.length <= 1000000 /\ ∀ x ∈ s,Sp.okBs x.bl):∀ (c i:Nat),i + c = s.length -> AV.int .i64 (Sp.idxF Sp.sMk (s.drop i) i) = dq -> svJoa_at h s s.length i (PureQ dq):=by
 have hl:s.length <= 1000000:=hk.1
 intro c
 induction c with
 | zero =>
  intro i hi hq
  rw [List.drop_eq_nil_of_le (by omega)] at hq
  exact svJoa _ _ _ _ _ ⟨fun h => by omega,fun _ => hq⟩
 | succ c ih =>
  intro i hi hq
  have hm:=hk.2 _ (getD_mem (show i < s.length by omega))
  rw [drop_getD (show i < s.length by omega),Sp.idxF] at hq
  refine svJoa _ _ _ _ _ ⟨fun _ => ?_,fun h => by omega⟩
  rw [Int.toNat_natCast]
  refine ⟨hm,by omega,by omega,fun h => ?_,fun h => ⟨by omega,ih (i + 1) (by omega) ?_⟩⟩
  ·rw [if_pos (show Sp.sMk (s.getD i default) = true from h)] at hq
   exact hq
  ·rw [if_neg (show ¬Sp.sMk (s.getD i default) = true from h)] at hq
   exact hq
theorem ev86_a (h:Bool) (s:List Sb) (hk:s.length <= 1000000 /\ ∀ x ∈ s,Sp.okBs x.bl):Ev M1 (.pure 86 [sbA h s,.func (.func 79) [] []]) (.int .i64 (Sp.idxP Sp.sMk s)) []:=
 call86 (svJo h s _ (svJo_loop hk s.length 0 (by omega) rfl))
theorem svJr_loop {h:Bool} {s:List Sb} {m:Int} {f:Bool} {q:List Bk} {dq:AV} (hk:s.length <= 1000000):∀ (c i:Nat),i + c = s.length -> AV.int .i64 (Sp.idxF (Sp.sIs m) (s.drop i) i) = dq -> svJra_at h s m f q s.length i (PureQ dq):=by
 have hl:s.length <= 1000000:=hk
 intro c
 induction c with
 | zero =>
  intro i hi hq
  rw [List.drop_eq_nil_of_le (by omega)] at hq
  exact svJra _ _ _ _ _ _ _ _ ⟨fun h => by omega,fun _ => hq⟩
 | succ c ih =>
  intro i hi hq
  rw [drop_getD (show i < s.length by omega),Sp.idxF] at hq
  refine svJra _ _ _ _ _ _ _ _ ⟨fun _ => ?_,fun h => by omega⟩
  rw [Int.toNat_natCast]
  refine ⟨by omega,by omega,fun h => ?_,fun h => ⟨by omega,ih (i + 1) (by omega) ?_⟩⟩
  ·rw [if_pos (show (Sp.sIs m) (s.getD i default) = true from h)] at hq
   exact hq
  ·rw [if_neg (show ¬(Sp.sIs m) (s.getD i default) = true from h)] at hq
   exact hq
theorem ev86_b (h:Bool) (s:List Sb) (m:Int) (f:Bool) (q:List Bk) (hk:s.length <= 1000000):Ev M1 (.pure 86 [sbA h s,.func (.func 80) [] [.eptr 2 [.agg [.int .i64 m,.vec f 3 (q.map Bk.a)]] 0 0]]) (.int .i64 (Sp.idxP (Sp.sIs m) s)) []:=
 call86 (svJr h s m f q _ (svJr_loop hk s.length 0 (by omega) rfl))
end Go.Av

namespace Go.Av
open Go.Proofs
set_option maxRecDepth 100000
def fi78:Fi:=⟨9,[.tmp 4]⟩
def kp78:List (Nat × List Nat):=[(0,[0,1]),(1,[4])]
def svKo_at (h:Bool) (s:List Sb) (Q:AV -> Heap -> Prop):Prop:=Wp M1 (.run fi78 (atC (cd Try.f78) []) [(0,.vec h 2 (s.map Sb.a)),(1,.func (.func 79) [] [])] []) Q
def svKr_at (h:Bool) (s:List Sb) (m:Int) (f:Bool) (q:List Bk) (Q:AV -> Heap -> Prop):Prop:=Wp M1 (.run fi78 (atC (cd Try.f78) []) [(0,.vec h 2 (s.map Sb.a)),(1,.func (.func 80) [] [.eptr 2 [.agg [.int .i64 m,.vec f 3 (q.map Bk.a)]] 0 0])] []) Q
theorem call78 {args:List AV} {d:AV} (h:wc M1 fi78 Try.f78 args d):Ev M1 (.pure 78 args) d []:=pcl _ _ (by kernel_rfl) h
theorem svKo (h:Bool) (s:List Sb)  (dq:AV) (H :
  (s.length <= 1000000 /\ ∀ (x:Sb),x ∈ s -> Sp.okBs x.bl) /\
  vb (decide (Sp.idxP Sp.sMk s >= 0)) = dq) :
 svKo_at h s (PureQ dq):=by
 unfold svKo_at
 obtain ⟨k1,H⟩:=H
 exact path_re (G:=given kp78 [(1,2,.call (vi (Sp.idxP Sp.sMk s)) none)] []) 1000 [] (vb (decide (Sp.idxP Sp.sMk s >= 0))) (by kernel_rfl) b0 q0 (ce (@ev86_a (h) (s) k1) c0) H
theorem svKr (h:Bool) (s:List Sb) (m:Int) (f:Bool) (q:List Bk)  (dq:AV) (H :
  (s.length <= 1000000) /\
  vb (decide (Sp.idxP (Sp.sIs m) s >= 0)) = dq) :
 svKr_at h s m f q (PureQ dq):=by
 unfold svKr_at
 obtain ⟨k1,H⟩:=H
 exact path_re (G:=given kp78 [(1,2,.call (vi (Sp.idxP (Sp.sIs m) s)) none)] []) 1000 [] (vb (decide (Sp.idxP (Sp.sIs m) s >= 0))) (by kernel_rfl) b0 q0 (ce (@ev86_b (h) (s) (m) (f) (q) k1) c0) H
end Go.Av

namespace Go.Av
open Go.Proofs
theorem ev78_a (h:Bool) (s:List Sb) (hk:s.length <= 1000000 /\ ∀ x ∈ s,Sp.okBs x.bl):Ev M1 (.pure 78 [sbA h s,.func (.func 79) [] []]) (.bool (Sp.anyP Sp.sMk s)) []:=
 call78 (svKo h s _ ⟨hk,congrArg AV.bool (any_idx ..)⟩)
theorem ev78_b (h:Bool) (s:List Sb) (m:Int) (f:Bool) (q:List Bk) (hk:s.length <= 1000000):Ev M1 (.pure 78 [sbA h s,.func (.func 80) [] [.eptr 2 [.agg [.int .i64 m,.vec f 3 (q.map Bk.a)]] 0 0]]) (.bool (Sp.anyP (Sp.sIs m) s)) []:=
 call78 (svKr h s m f q _ ⟨hk,congrArg AV.bool (any_idx ..)⟩)
end Go.Av

namespace Go.Av
open Go.Proofs
set_option maxRecDepth 100000
def fi62:Fi:=⟨48,[.tmp 2]⟩
def kp62:List (Nat × List Nat):=[(0,[1]),(1,[1,3]),(2,[1,43]),(3,[2]),(4,[2])]
def fi63:Fi:=⟨18,[.tmp 2]⟩
def kp63:List (Nat × List Nat):=[(0,[0]),(1,[0,5,6,7]),(2,[0,5,6,7,8]),(3,[0,3,4,5,6,7]),(4,[0,5,6,7,16]),(5,[2]),(6,[0,5,6,7]),(7,[2])]
def svRp_at (h:Bool) (s:List Sb) (Q:AV -> Heap -> Prop):Prop:=Wp M1 (.run fi63 (atC (cd Try.f63) []) [(0,.vec h 2 (s.map Sb.a))] []) Q
def svRpa_at (h:Bool) (s:List Sb) (n i:Int) (Q:AV -> Heap -> Prop):Prop:=Wp M1 (.run fi63 (atC (cd Try.f63) [1,0,1,0,0]) [(0,.vec h 2 (s.map Sb.a)),(5,.vec h 2 (s.map Sb.a)),(6,.int .i64 n),(7,.int .i64 i)] []) Q
def svOd_at (g:Bool) (l:List Bk) (h:Bool) (s:List Sb) (Q:AV -> Heap -> Prop):Prop:=Wp M1 (.run fi62 (atC (cd Try.f62) []) [(0,.agg [.vec g 3 (l.map Bk.a),.vec h 2 (s.map Sb.a)])] []) Q
theorem call62 {args:List AV} {d:AV} (h:wc M1 fi62 Try.f62 args d):Ev M1 (.pure 62 args) d []:=pcl _ _ (by kernel_rfl) h
theorem call63 {args:List AV} {d:AV} (h:wc M1 fi63 Try.f63 args d):Ev M1 (.pure 63 args) d []:=pcl _ _ (by kernel_rfl) h
theorem svRp (h:Bool) (s:List Sb)  (dq:AV) (H :
  svRpa_at (h) (s) ((↑s.length:Int)) (0) (PureQ dq)) :
 svRp_at h s (PureQ dq):=by
 unfold svRp_at
 have w1:(List.map Sb.a s).length = s.length:=List.length_map ..
 exact path_wp (G:=given kp63 [] []) 1000 [] ⟨(atC (cd Try.f63) [1,0,1,0,0]),[(0,AV.vec h 2 (List.map Sb.a s)),(5,AV.vec h 2 (List.map Sb.a s)),(6,vi (↑(List.map Sb.a s).length:Int)),(7,vi 0)],[],_,[],_⟩ (by kernel_rfl) b0 q0 c0 (by (try rw [w1]);all_goals exact H)
noncomputable abbrev zSpT1 (s:List Sb) (i:Int):=Sp.anyP (Sp.sIs (s.getD i.toNat default).n) (List.drop 0 (List.take i.toNat s))
theorem svRpa (h:Bool) (s:List Sb) (n i:Int)  (dq:AV) (H :
  ((i < n) -> (0 <= i) /\
   (i.toNat < s.length) /\
   ((List.drop 0 (List.take i.toNat s)).length <= 1000000) /\
   (0 <= i.toNat) /\
   (i.toNat <= s.length) /\
   ((Sp.anyP (Sp.sIs (s.getD i.toNat default).n) (List.drop 0 (List.take i.toNat s)) = true) -> vb true = dq) /\
   (¬(Sp.anyP (Sp.sIs (s.getD i.toNat default).n) (List.drop 0 (List.take i.toNat s)) = true) -> (-9223372036854775808 <= i + 1 /\ i + 1 <= 9223372036854775807) /\
    svRpa_at (h) (s) (n) (i + 1) (PureQ dq))) /\
  (¬(i < n) -> vb false = dq)) :
 svRpa_at h s n i (PureQ dq):=by
 unfold svRpa_at
 rcases xm (i < n) with d2 | d2
 ·have H:=H.1 d2
  obtain ⟨k4,H⟩:=H
  have w5:(List.map Sb.a s).length = s.length:=List.length_map ..
  have i6:(decide (i.toNat < (List.map Sb.a s).length)) = true ↔ (i.toNat < s.length):=(by (try rw [w5]);all_goals exact i_dec)
  obtain ⟨k7,H⟩:=H
  have w8:List.take i.toNat (List.map Sb.a s) = List.map Sb.a (List.take i.toNat s):=(lm_take rfl)
  have w9:List.drop 0 (List.map Sb.a (List.take i.toNat s)) = List.map Sb.a (List.drop 0 (List.take i.toNat s)):=(lm_drop rfl)
  obtain ⟨k10,H⟩:=H
  obtain ⟨k13,H⟩:=H
  have i14:(decide (i.toNat <= (List.map Sb.a s).length)) = true ↔ (i.toNat <= s.length):=(by (try rw [w5]);all_goals exact i_dec)
  obtain ⟨k15,H⟩:=H
  refine path_wp (G:=given kp63 [(3,2,.elem (ag [vi (s.getD i.toNat default).n,AV.vec (s.getD i.toNat default).2 3 (List.map Bk.a (s.getD i.toNat default).3)])),(4,4,.call (vb (zSpT1 s i)) none)] []) 11 [true] ⟨(atC (cd Try.f63) [1,0,1,0,0,1,1,0,0,1,1]),[(0,AV.vec h 2 (List.map Sb.a s)),(5,AV.vec h 2 (List.map Sb.a s)),(6,vi n),(7,vi i),(16,vb (zSpT1 s i))],[⟨[ag [vi (s.getD i.toNat default).n,AV.vec (s.getD i.toNat default).2 3 (List.map Bk.a (s.getD i.toNat default).3)]],2,0,false,false⟩],_,[((List.map Sb.a s).get?Internal i.toNat = some (ag [vi (s.getD i.toNat default).n,AV.vec (s.getD i.toNat default).2 3 (List.map Bk.a (s.getD i.toNat default).3)]))],[pc 78 [AV.vec (h && false) 2 (List.drop 0 (List.take i.toNat (List.map Sb.a s))),AV.func (Fn.func 80) [] [AV.eptr 2 [ag [vi (s.getD i.toNat default).n,AV.vec (s.getD i.toNat default).2 3 (List.map Bk.a (s.getD i.toNat default).3)]] 0 0]] (vb (zSpT1 s i))]⟩ (by kernel_rfl) (bc (beq_t (i_dec.2 d2)) (bc (i_dec.2 k4) (bc (i6.2 k7) (bc rfl (bc (i_dec.2 k4) (bc (i_dec.2 k13) (bc (i14.2 k15) (bc rfl b0)))))))) (qc (el_map k7) q0) (ce (by (try rw [w8]);(try rw [w9]);all_goals exact (@ev78_b (h && false) (List.drop 0 (List.take i.toNat s)) ((s.getD i.toNat default).n) ((s.getD i.toNat default).2) ((s.getD i.toNat default).3) k10)) c0) ?_
  rcases xm (Sp.anyP (Sp.sIs (s.getD i.toNat default).n) (List.drop 0 (List.take i.toNat s)) = true) with d17 | d17
  ·have H:=H.1 d17
   exact path_re (G:=given kp63 [] []) 1000 [true] (asm:=[(zSpT1 s i) == true]) (vb true) (by kernel_rfl) (bc (beq_t ((i_var _).2 d17)) b0) q0 c0 H
  ·have H:=H.2 d17
   obtain ⟨k18,H⟩:=H
   have w19:wi (i + 1) = i + 1:=wI64 k18
   exact path_wp (G:=given kp63 [] []) 1000 [false] ⟨(atC (cd Try.f63) [1,0,1,0,0]),[(0,AV.vec h 2 (List.map Sb.a s)),(5,AV.vec h 2 (List.map Sb.a s)),(6,vi n),(7,vi (wi (i + 1)))],[⟨[ag [vi (s.getD i.toNat default).n,AV.vec (s.getD i.toNat default).2 3 (List.map Bk.a (s.getD i.toNat default).3)]],2,0,false,false⟩],[(zSpT1 s i) == false],[],_⟩ (by kernel_rfl) (bc (beq_f (fun h => d17 ((i_var _).1 h))) b0) q0 c0 (by (try rw [w19]);all_goals exact wp_narrow [] (by kernel_rfl) H)
 ·have H:=H.2 d2
  exact path_re (G:=given kp63 [] []) 1000 [false] (vb false) (by kernel_rfl) (bc (beq_f (fun h => d2 (i_dec.1 h))) b0) q0 c0 H
noncomputable abbrev zSpT2 (l:List Bk):=Sp.hasW (l.getD ((↑l.length:Int) - 1).toNat default).3 77 30000 = true
noncomputable abbrev zSpT3 (l:List Bk):=(↑(Sp.codes (l.getD ((↑l.length:Int) - 1).toNat default).3 79).length:Int) > 0
noncomputable abbrev zSpT4 (l:List Bk):=List.drop 0 (List.take ((↑l.length:Int) - 1).toNat l)
noncomputable abbrev zSpT5 (l:List Bk):=Sp.hasW (l.getD ((↑l.length:Int) - 1).toNat default).3 77 99000 = true
noncomputable abbrev zSpT6 (l:List Bk):=Sp.hasW (l.getD ((↑l.length:Int) - 1).toNat default).3 77 30000
noncomputable abbrev zSpT7 (l:List Bk):=Sp.hasW (l.getD ((↑l.length:Int) - 1).toNat default).3 77 99000
noncomputable abbrev zSpT8 (l:List Bk):=vf (List.map (vi) (Sp.codes (l.getD ((↑l.length:Int) - 1).toNat default).3 79))
theorem svOd (g:Bool) (l:List Bk) (h:Bool) (s:List Sb)  (dq:AV) (H :
  (-9223372036854775808 <= (↑l.length:Int) - 1 /\ (↑l.length:Int) - 1 <= 9223372036854775807) /\
  ((¬((↑l.length:Int) - 1 < 0)) -> (Sp.few6 (l.getD ((↑l.length:Int) - 1).toNat default).3.length)) /\
  ((¬(((↑l.length:Int) - 1 < 0) \/ (¬(Sp.hasW (l.getD ((↑l.length:Int) - 1).toNat default).3 77 30000 = true)))) -> (Sp.few6 (l.getD ((↑l.length:Int) - 1).toNat default).3.length)) /\
  ((¬((((↑l.length:Int) - 1 < 0) \/ (¬(Sp.hasW (l.getD ((↑l.length:Int) - 1).toNat default).3 77 30000 = true))) \/ ((↑(Sp.codes (l.getD ((↑l.length:Int) - 1).toNat default).3 79).length:Int) > 0))) -> (Sp.few6 (l.getD ((↑l.length:Int) - 1).toNat default).3.length)) /\
  ((¬(((((↑l.length:Int) - 1 < 0) \/ (¬(Sp.hasW (l.getD ((↑l.length:Int) - 1).toNat default).3 77 30000 = true))) \/ ((↑(Sp.codes (l.getD ((↑l.length:Int) - 1).toNat default).3 79).length:Int) > 0)) \/ (Sp.hasW (l.getD ((↑l.length:Int) - 1).toNat default).3 77 99000 = true))) -> (Sp.okBs (List.drop 0 (List.take ((↑l.length:Int) - 1).toNat l)))) /\
  ((¬((↑l.length:Int) - 1 < 0)) -> (0 <= (↑l.length:Int) - 1)) /\
  ((¬((↑l.length:Int) - 1 < 0)) -> (((↑l.length:Int) - 1).toNat < l.length)) /\
  ((¬(((↑l.length:Int) - 1 < 0) \/ (¬(Sp.hasW (l.getD ((↑l.length:Int) - 1).toNat default).3 77 30000 = true)))) -> (0 <= (↑l.length:Int) - 1)) /\
  ((¬(((↑l.length:Int) - 1 < 0) \/ (¬(Sp.hasW (l.getD ((↑l.length:Int) - 1).toNat default).3 77 30000 = true)))) -> (((↑l.length:Int) - 1).toNat < l.length)) /\
  ((¬((((↑l.length:Int) - 1 < 0) \/ (¬(Sp.hasW (l.getD ((↑l.length:Int) - 1).toNat default).3 77 30000 = true))) \/ ((↑(Sp.codes (l.getD ((↑l.length:Int) - 1).toNat default).3 79).length:Int) > 0))) -> (0 <= (↑l.length:Int) - 1)) /\
  ((¬((((↑l.length:Int) - 1 < 0) \/ (¬(Sp.hasW (l.getD ((↑l.length:Int) - 1).toNat default).3 77 30000 = true))) \/ ((↑(Sp.codes (l.getD ((↑l.length:Int) - 1).toNat default).3 79).length:Int) > 0))) -> (((↑l.length:Int) - 1).toNat < l.length)) /\
  ((¬(((((↑l.length:Int) - 1 < 0) \/ (¬(Sp.hasW (l.getD ((↑l.length:Int) - 1).toNat default).3 77 30000 = true))) \/ ((↑(Sp.codes (l.getD ((↑l.length:Int) - 1).toNat default).3 79).length:Int) > 0)) \/ (Sp.hasW (l.getD ((↑l.length:Int) - 1).toNat default).3 77 99000 = true))) -> (0 <= (↑l.length:Int) - 1)) /\
  ((¬(((((↑l.length:Int) - 1 < 0) \/ (¬(Sp.hasW (l.getD ((↑l.length:Int) - 1).toNat default).3 77 30000 = true))) \/ ((↑(Sp.codes (l.getD ((↑l.length:Int) - 1).toNat default).3 79).length:Int) > 0)) \/ (Sp.hasW (l.getD ((↑l.length:Int) - 1).toNat default).3 77 99000 = true))) -> (0 <= ((↑l.length:Int) - 1).toNat)) /\
  ((¬(((((↑l.length:Int) - 1 < 0) \/ (¬(Sp.hasW (l.getD ((↑l.length:Int) - 1).toNat default).3 77 30000 = true))) \/ ((↑(Sp.codes (l.getD ((↑l.length:Int) - 1).toNat default).3 79).length:Int) > 0)) \/ (Sp.hasW (l.getD ((↑l.length:Int) - 1).toNat default).3 77 99000 = true))) -> (((↑l.length:Int) - 1).toNat <= l.length)) /\
  (((((((↑l.length:Int) - 1 < 0) \/ (¬(Sp.hasW (l.getD ((↑l.length:Int) - 1).toNat default).3 77 30000 = true))) \/ ((↑(Sp.codes (l.getD ((↑l.length:Int) - 1).toNat default).3 79).length:Int) > 0)) \/ (Sp.hasW (l.getD ((↑l.length:Int) - 1).toNat default).3 77 99000 = true)) \/ (Sp.anyP Sp.pMk (List.drop 0 (List.take ((↑l.length:Int) - 1).toNat l)) = true)) -> vb false = dq) /\
  (¬((((((↑l.length:Int) - 1 < 0) \/ (¬(Sp.hasW (l.getD ((↑l.length:Int) - 1).toNat default).3 77 30000 = true))) \/ ((↑(Sp.codes (l.getD ((↑l.length:Int) - 1).toNat default).3 79).length:Int) > 0)) \/ (Sp.hasW (l.getD ((↑l.length:Int) - 1).toNat default).3 77 99000 = true)) \/ (Sp.anyP Sp.pMk (List.drop 0 (List.take ((↑l.length:Int) - 1).toNat l)) = true)) -> (s.length <= 1000000 /\ ∀ (x:Sb),x ∈ s -> Sp.okBs x.bl) /\
   (vb !Sp.anyP Sp.sMk s) = dq)) :
 svOd_at g l h s (PureQ dq):=by
 unfold svOd_at
 have w1:(List.map Bk.a l).length = l.length:=List.length_map ..
 obtain ⟨k2,H⟩:=H
 have w3:wi ((↑l.length:Int) - 1) = (↑l.length:Int) - 1:=wI64 k2
 have i4:(decide (wi ((↑(List.map Bk.a l).length:Int) - 1) < 0) == false && true && true) = true ↔ (¬((↑l.length:Int) - 1 < 0)):=(by (try rw [w1]);(try rw [w3]);all_goals exact (i_at (i_at (i_bf i_dec))))
 obtain ⟨k5,H⟩:=H
 have i6:((bif decide (wi ((↑(List.map Bk.a l).length:Int) - 1) < 0) then true else !Sp.hasW (l.getD ((↑l.length:Int) - 1).toNat default).3 77 30000) == false && true && true) = true ↔ (¬(((↑l.length:Int) - 1 < 0) \/ (¬(zSpT2 l)))):=(by (try rw [w1]);(try rw [w3]);all_goals exact (i_at (i_at (i_bf (i_bor i_dec (i_not (i_var _)))))))
 obtain ⟨k7,H⟩:=H
 have w8:(List.map (vi) (Sp.codes (l.getD ((↑l.length:Int) - 1).toNat default).3 79)).length = (Sp.codes (l.getD ((↑l.length:Int) - 1).toNat default).3 79).length:=List.length_map ..
 have i9:((bif bif decide (wi ((↑(List.map Bk.a l).length:Int) - 1) < 0) then true else !Sp.hasW (l.getD ((↑l.length:Int) - 1).toNat default).3 77 30000 then true else decide ((↑(List.map (vi) (Sp.codes (l.getD ((↑l.length:Int) - 1).toNat default).3 79)).length:Int) > 0)) == false && true && true) = true ↔ (¬((((↑l.length:Int) - 1 < 0) \/ (¬(zSpT2 l))) \/ (zSpT3 l))):=(by (try rw [w1]);(try rw [w3]);(try rw [w8]);all_goals exact (i_at (i_at (i_bf (i_bor (i_bor i_dec (i_not (i_var _))) i_dec)))))
 obtain ⟨k10,H⟩:=H
 have w11:List.take ((↑l.length:Int) - 1).toNat (List.map Bk.a l) = List.map Bk.a (List.take ((↑l.length:Int) - 1).toNat l):=(lm_take rfl)
 have w12:List.drop 0 (List.map Bk.a (List.take ((↑l.length:Int) - 1).toNat l)) = List.map Bk.a (zSpT4 l):=(lm_drop rfl)
 have i13:((bif bif bif decide (wi ((↑(List.map Bk.a l).length:Int) - 1) < 0) then true else !Sp.hasW (l.getD ((↑l.length:Int) - 1).toNat default).3 77 30000 then true else decide ((↑(List.map (vi) (Sp.codes (l.getD ((↑l.length:Int) - 1).toNat default).3 79)).length:Int) > 0) then true else Sp.hasW (l.getD ((↑l.length:Int) - 1).toNat default).3 77 99000) == false && true && true) = true ↔ (¬(((((↑l.length:Int) - 1 < 0) \/ (¬(zSpT2 l))) \/ (zSpT3 l)) \/ (zSpT5 l))):=(by (try rw [w1]);(try rw [w3]);(try rw [w8]);all_goals exact (i_at (i_at (i_bf (i_bor (i_bor (i_bor i_dec (i_not (i_var _))) i_dec) (i_var _))))))
 obtain ⟨k14,H⟩:=H
 have i15:(!(decide (wi ((↑(List.map Bk.a l).length:Int) - 1) < 0) == false && true) || decide (0 <= wi ((↑(List.map Bk.a l).length:Int) - 1))) = true ↔ ((¬((↑l.length:Int) - 1 < 0)) -> (0 <= (↑l.length:Int) - 1)):=(by (try rw [w1]);(try rw [w3]);all_goals exact (i_imp (i_at (i_bf i_dec)) i_dec))
 obtain ⟨k16,H⟩:=H
 have i17:(!(decide (wi ((↑(List.map Bk.a l).length:Int) - 1) < 0) == false && true) || decide ((wi ((↑(List.map Bk.a l).length:Int) - 1)).toNat < (List.map Bk.a l).length)) = true ↔ ((¬((↑l.length:Int) - 1 < 0)) -> (((↑l.length:Int) - 1).toNat < l.length)):=(by (try rw [w1]);(try rw [w3]);all_goals exact (i_imp (i_at (i_bf i_dec)) i_dec))
 obtain ⟨k18,H⟩:=H
 have i19:(!((bif decide (wi ((↑(List.map Bk.a l).length:Int) - 1) < 0) then true else !Sp.hasW (l.getD ((↑l.length:Int) - 1).toNat default).3 77 30000) == false && true) || decide (0 <= wi ((↑(List.map Bk.a l).length:Int) - 1))) = true ↔ ((¬(((↑l.length:Int) - 1 < 0) \/ (¬(zSpT2 l)))) -> (0 <= (↑l.length:Int) - 1)):=(by (try rw [w1]);(try rw [w3]);all_goals exact (i_imp (i_at (i_bf (i_bor i_dec (i_not (i_var _))))) i_dec))
 obtain ⟨k20,H⟩:=H
 have i21:(!((bif decide (wi ((↑(List.map Bk.a l).length:Int) - 1) < 0) then true else !Sp.hasW (l.getD ((↑l.length:Int) - 1).toNat default).3 77 30000) == false && true) || decide ((wi ((↑(List.map Bk.a l).length:Int) - 1)).toNat < (List.map Bk.a l).length)) = true ↔ ((¬(((↑l.length:Int) - 1 < 0) \/ (¬(zSpT2 l)))) -> (((↑l.length:Int) - 1).toNat < l.length)):=(by (try rw [w1]);(try rw [w3]);all_goals exact (i_imp (i_at (i_bf (i_bor i_dec (i_not (i_var _))))) i_dec))
 obtain ⟨k22,H⟩:=H
 have i23:(!((bif bif decide (wi ((↑(List.map Bk.a l).length:Int) - 1) < 0) then true else !Sp.hasW (l.getD ((↑l.length:Int) - 1).toNat default).3 77 30000 then true else decide ((↑(List.map (vi) (Sp.codes (l.getD ((↑l.length:Int) - 1).toNat default).3 79)).length:Int) > 0)) == false && true) || decide (0 <= wi ((↑(List.map Bk.a l).length:Int) - 1))) = true ↔ ((¬((((↑l.length:Int) - 1 < 0) \/ (¬(zSpT2 l))) \/ (zSpT3 l))) -> (0 <= (↑l.length:Int) - 1)):=(by (try rw [w1]);(try rw [w3]);(try rw [w8]);all_goals exact (i_imp (i_at (i_bf (i_bor (i_bor i_dec (i_not (i_var _))) i_dec))) i_dec))
 obtain ⟨k24,H⟩:=H
 have i25:(!((bif bif decide (wi ((↑(List.map Bk.a l).length:Int) - 1) < 0) then true else !Sp.hasW (l.getD ((↑l.length:Int) - 1).toNat default).3 77 30000 then true else decide ((↑(List.map (vi) (Sp.codes (l.getD ((↑l.length:Int) - 1).toNat default).3 79)).length:Int) > 0)) == false && true) || decide ((wi ((↑(List.map Bk.a l).length:Int) - 1)).toNat < (List.map Bk.a l).length)) = true ↔ ((¬((((↑l.length:Int) - 1 < 0) \/ (¬(zSpT2 l))) \/ (zSpT3 l))) -> (((↑l.length:Int) - 1).toNat < l.length)):=(by (try rw [w1]);(try rw [w3]);(try rw [w8]);all_goals exact (i_imp (i_at (i_bf (i_bor (i_bor i_dec (i_not (i_var _))) i_dec))) i_dec))
 obtain ⟨k26,H⟩:=H
 have i27:(!((bif bif bif decide (wi ((↑(List.map Bk.a l).length:Int) - 1) < 0) then true else !Sp.hasW (l.getD ((↑l.length:Int) - 1).toNat default).3 77 30000 then true else decide ((↑(List.map (vi) (Sp.codes (l.getD ((↑l.length:Int) - 1).toNat default).3 79)).length:Int) > 0) then true else Sp.hasW (l.getD ((↑l.length:Int) - 1).toNat default).3 77 99000) == false && true) || decide (0 <= wi ((↑(List.map Bk.a l).length:Int) - 1))) = true ↔ ((¬(((((↑l.length:Int) - 1 < 0) \/ (¬(zSpT2 l))) \/ (zSpT3 l)) \/ (zSpT5 l))) -> (0 <= (↑l.length:Int) - 1)):=(by (try rw [w1]);(try rw [w3]);(try rw [w8]);all_goals exact (i_imp (i_at (i_bf (i_bor (i_bor (i_bor i_dec (i_not (i_var _))) i_dec) (i_var _)))) i_dec))
 obtain ⟨k28,H⟩:=H
 have i29:(!((bif bif bif decide (wi ((↑(List.map Bk.a l).length:Int) - 1) < 0) then true else !Sp.hasW (l.getD ((↑l.length:Int) - 1).toNat default).3 77 30000 then true else decide ((↑(List.map (vi) (Sp.codes (l.getD ((↑l.length:Int) - 1).toNat default).3 79)).length:Int) > 0) then true else Sp.hasW (l.getD ((↑l.length:Int) - 1).toNat default).3 77 99000) == false && true) || decide (0 <= (wi ((↑(List.map Bk.a l).length:Int) - 1)).toNat)) = true ↔ ((¬(((((↑l.length:Int) - 1 < 0) \/ (¬(zSpT2 l))) \/ (zSpT3 l)) \/ (zSpT5 l))) -> (0 <= ((↑l.length:Int) - 1).toNat)):=(by (try rw [w1]);(try rw [w3]);(try rw [w8]);all_goals exact (i_imp (i_at (i_bf (i_bor (i_bor (i_bor i_dec (i_not (i_var _))) i_dec) (i_var _)))) i_dec))
 obtain ⟨k30,H⟩:=H
 have i31:(!((bif bif bif decide (wi ((↑(List.map Bk.a l).length:Int) - 1) < 0) then true else !Sp.hasW (l.getD ((↑l.length:Int) - 1).toNat default).3 77 30000 then true else decide ((↑(List.map (vi) (Sp.codes (l.getD ((↑l.length:Int) - 1).toNat default).3 79)).length:Int) > 0) then true else Sp.hasW (l.getD ((↑l.length:Int) - 1).toNat default).3 77 99000) == false && true) || decide ((wi ((↑(List.map Bk.a l).length:Int) - 1)).toNat <= (List.map Bk.a l).length)) = true ↔ ((¬(((((↑l.length:Int) - 1 < 0) \/ (¬(zSpT2 l))) \/ (zSpT3 l)) \/ (zSpT5 l))) -> (((↑l.length:Int) - 1).toNat <= l.length)):=(by (try rw [w1]);(try rw [w3]);(try rw [w8]);all_goals exact (i_imp (i_at (i_bf (i_bor (i_bor (i_bor i_dec (i_not (i_var _))) i_dec) (i_var _)))) i_dec))
 obtain ⟨k32,H⟩:=H
 have i36:(bif bif bif bif decide (wi ((↑(List.map Bk.a l).length:Int) - 1) < 0) then true else !Sp.hasW (l.getD ((↑l.length:Int) - 1).toNat default).3 77 30000 then true else decide ((↑(List.map (vi) (Sp.codes (l.getD ((↑l.length:Int) - 1).toNat default).3 79)).length:Int) > 0) then true else Sp.hasW (l.getD ((↑l.length:Int) - 1).toNat default).3 77 99000 then true else Sp.anyP Sp.pMk (zSpT4 l)) = true ↔ ((((((↑l.length:Int) - 1 < 0) \/ (¬(zSpT2 l))) \/ (zSpT3 l)) \/ (zSpT5 l)) \/ (Sp.anyP Sp.pMk (zSpT4 l) = true)):=(by (try rw [w1]);(try rw [w3]);(try rw [w8]);all_goals exact (i_bor (i_bor (i_bor (i_bor i_dec (i_not (i_var _))) i_dec) (i_var _)) (i_var _)))
 refine path_wp (G:=given kp62 [(2,7,.elem (ag [vb (l.getD ((↑l.length:Int) - 1).toNat default).1,AV.vec (l.getD ((↑l.length:Int) - 1).toNat default).2 2 (List.map Wo.a (l.getD ((↑l.length:Int) - 1).toNat default).3),AV.str (l.getD ((↑l.length:Int) - 1).toNat default).4])),(2,8,.call (vb (zSpT6 l)) none),(2,16,.elem (ag [vb (l.getD ((↑l.length:Int) - 1).toNat default).1,AV.vec (l.getD ((↑l.length:Int) - 1).toNat default).2 2 (List.map Wo.a (l.getD ((↑l.length:Int) - 1).toNat default).3),AV.str (l.getD ((↑l.length:Int) - 1).toNat default).4])),(2,17,.call (zSpT8 l) none),(2,26,.elem (ag [vb (l.getD ((↑l.length:Int) - 1).toNat default).1,AV.vec (l.getD ((↑l.length:Int) - 1).toNat default).2 2 (List.map Wo.a (l.getD ((↑l.length:Int) - 1).toNat default).3),AV.str (l.getD ((↑l.length:Int) - 1).toNat default).4])),(2,27,.call (vb (zSpT7 l)) none),(2,34,.call (vb (Sp.anyP Sp.pMk (zSpT4 l))) none)] []) 7 [] ⟨(atC (cd Try.f62) [1,1,0,1]),[(1,AV.ptr 0 0 0 0),(43,vb (bif bif bif bif decide (wi ((↑(List.map Bk.a l).length:Int) - 1) < 0) then true else !Sp.hasW (l.getD ((↑l.length:Int) - 1).toNat default).3 77 30000 then true else decide ((↑(List.map (vi) (Sp.codes (l.getD ((↑l.length:Int) - 1).toNat default).3 79)).length:Int) > 0) then true else Sp.hasW (l.getD ((↑l.length:Int) - 1).toNat default).3 77 99000 then true else Sp.anyP Sp.pMk (zSpT4 l)))],[⟨[ag [AV.vec g 3 (List.map Bk.a l),AV.vec h 2 (List.map Sb.a s)]],2,0,false,false⟩],[true,!(decide (wi ((↑(List.map Bk.a l).length:Int) - 1) < 0) == false && true) || true,!(decide (wi ((↑(List.map Bk.a l).length:Int) - 1) < 0) == false && true) || decide (0 <= wi ((↑(List.map Bk.a l).length:Int) - 1)),!(decide (wi ((↑(List.map Bk.a l).length:Int) - 1) < 0) == false && true) || decide ((wi ((↑(List.map Bk.a l).length:Int) - 1)).toNat < (List.map Bk.a l).length),!((bif decide (wi ((↑(List.map Bk.a l).length:Int) - 1) < 0) then true else !Sp.hasW (l.getD ((↑l.length:Int) - 1).toNat default).3 77 30000) == false && true) || true,!((bif decide (wi ((↑(List.map Bk.a l).length:Int) - 1) < 0) then true else !Sp.hasW (l.getD ((↑l.length:Int) - 1).toNat default).3 77 30000) == false && true) || decide (0 <= wi ((↑(List.map Bk.a l).length:Int) - 1)),!((bif decide (wi ((↑(List.map Bk.a l).length:Int) - 1) < 0) then true else !Sp.hasW (l.getD ((↑l.length:Int) - 1).toNat default).3 77 30000) == false && true) || decide ((wi ((↑(List.map Bk.a l).length:Int) - 1)).toNat < (List.map Bk.a l).length),!((bif bif decide (wi ((↑(List.map Bk.a l).length:Int) - 1) < 0) then true else !Sp.hasW (l.getD ((↑l.length:Int) - 1).toNat default).3 77 30000 then true else decide ((↑(List.map (vi) (Sp.codes (l.getD ((↑l.length:Int) - 1).toNat default).3 79)).length:Int) > 0)) == false && true) || true,!((bif bif decide (wi ((↑(List.map Bk.a l).length:Int) - 1) < 0) then true else !Sp.hasW (l.getD ((↑l.length:Int) - 1).toNat default).3 77 30000 then true else decide ((↑(List.map (vi) (Sp.codes (l.getD ((↑l.length:Int) - 1).toNat default).3 79)).length:Int) > 0)) == false && true) || decide (0 <= wi ((↑(List.map Bk.a l).length:Int) - 1)),!((bif bif decide (wi ((↑(List.map Bk.a l).length:Int) - 1) < 0) then true else !Sp.hasW (l.getD ((↑l.length:Int) - 1).toNat default).3 77 30000 then true else decide ((↑(List.map (vi) (Sp.codes (l.getD ((↑l.length:Int) - 1).toNat default).3 79)).length:Int) > 0)) == false && true) || decide ((wi ((↑(List.map Bk.a l).length:Int) - 1)).toNat < (List.map Bk.a l).length),!((bif bif bif decide (wi ((↑(List.map Bk.a l).length:Int) - 1) < 0) then true else !Sp.hasW (l.getD ((↑l.length:Int) - 1).toNat default).3 77 30000 then true else decide ((↑(List.map (vi) (Sp.codes (l.getD ((↑l.length:Int) - 1).toNat default).3 79)).length:Int) > 0) then true else Sp.hasW (l.getD ((↑l.length:Int) - 1).toNat default).3 77 99000) == false && true) || true,!((bif bif bif decide (wi ((↑(List.map Bk.a l).length:Int) - 1) < 0) then true else !Sp.hasW (l.getD ((↑l.length:Int) - 1).toNat default).3 77 30000 then true else decide ((↑(List.map (vi) (Sp.codes (l.getD ((↑l.length:Int) - 1).toNat default).3 79)).length:Int) > 0) then true else Sp.hasW (l.getD ((↑l.length:Int) - 1).toNat default).3 77 99000) == false && true) || decide (0 <= wi ((↑(List.map Bk.a l).length:Int) - 1)),!((bif bif bif decide (wi ((↑(List.map Bk.a l).length:Int) - 1) < 0) then true else !Sp.hasW (l.getD ((↑l.length:Int) - 1).toNat default).3 77 30000 then true else decide ((↑(List.map (vi) (Sp.codes (l.getD ((↑l.length:Int) - 1).toNat default).3 79)).length:Int) > 0) then true else Sp.hasW (l.getD ((↑l.length:Int) - 1).toNat default).3 77 99000) == false && true) || decide (0 <= (wi ((↑(List.map Bk.a l).length:Int) - 1)).toNat),!((bif bif bif decide (wi ((↑(List.map Bk.a l).length:Int) - 1) < 0) then true else !Sp.hasW (l.getD ((↑l.length:Int) - 1).toNat default).3 77 30000 then true else decide ((↑(List.map (vi) (Sp.codes (l.getD ((↑l.length:Int) - 1).toNat default).3 79)).length:Int) > 0) then true else Sp.hasW (l.getD ((↑l.length:Int) - 1).toNat default).3 77 99000) == false && true) || decide ((wi ((↑(List.map Bk.a l).length:Int) - 1)).toNat <= (List.map Bk.a l).length)],[((decide (wi ((↑(List.map Bk.a l).length:Int) - 1) < 0) == false && true) = true -> (List.map Bk.a l).get?Internal (wi ((↑(List.map Bk.a l).length:Int) - 1)).toNat = some (ag [vb (l.getD ((↑l.length:Int) - 1).toNat default).1,AV.vec (l.getD ((↑l.length:Int) - 1).toNat default).2 2 (List.map Wo.a (l.getD ((↑l.length:Int) - 1).toNat default).3),AV.str (l.getD ((↑l.length:Int) - 1).toNat default).4])),(((bif decide (wi ((↑(List.map Bk.a l).length:Int) - 1) < 0) then true else !Sp.hasW (l.getD ((↑l.length:Int) - 1).toNat default).3 77 30000) == false && true) = true -> (List.map Bk.a l).get?Internal (wi ((↑(List.map Bk.a l).length:Int) - 1)).toNat = some (ag [vb (l.getD ((↑l.length:Int) - 1).toNat default).1,AV.vec (l.getD ((↑l.length:Int) - 1).toNat default).2 2 (List.map Wo.a (l.getD ((↑l.length:Int) - 1).toNat default).3),AV.str (l.getD ((↑l.length:Int) - 1).toNat default).4])),(((bif bif decide (wi ((↑(List.map Bk.a l).length:Int) - 1) < 0) then true else !Sp.hasW (l.getD ((↑l.length:Int) - 1).toNat default).3 77 30000 then true else decide ((↑(List.map (vi) (Sp.codes (l.getD ((↑l.length:Int) - 1).toNat default).3 79)).length:Int) > 0)) == false && true) = true -> (List.map Bk.a l).get?Internal (wi ((↑(List.map Bk.a l).length:Int) - 1)).toNat = some (ag [vb (l.getD ((↑l.length:Int) - 1).toNat default).1,AV.vec (l.getD ((↑l.length:Int) - 1).toNat default).2 2 (List.map Wo.a (l.getD ((↑l.length:Int) - 1).toNat default).3),AV.str (l.getD ((↑l.length:Int) - 1).toNat default).4]))],[⟨decide (wi ((↑(List.map Bk.a l).length:Int) - 1) < 0) == false && true && true,false,40,[ag [vb (l.getD ((↑l.length:Int) - 1).toNat default).1,AV.vec (l.getD ((↑l.length:Int) - 1).toNat default).2 2 (List.map Wo.a (l.getD ((↑l.length:Int) - 1).toNat default).3),AV.str (l.getD ((↑l.length:Int) - 1).toNat default).4],AV.int IntKind.u8 77,vi 30000],[],vb (zSpT6 l),[]⟩,⟨(bif decide (wi ((↑(List.map Bk.a l).length:Int) - 1) < 0) then true else !Sp.hasW (l.getD ((↑l.length:Int) - 1).toNat default).3 77 30000) == false && true && true,false,70,[ag [vb (l.getD ((↑l.length:Int) - 1).toNat default).1,AV.vec (l.getD ((↑l.length:Int) - 1).toNat default).2 2 (List.map Wo.a (l.getD ((↑l.length:Int) - 1).toNat default).3),AV.str (l.getD ((↑l.length:Int) - 1).toNat default).4],AV.int IntKind.u8 79],[],vf (List.map (vi) (Sp.codes (l.getD ((↑l.length:Int) - 1).toNat default).3 79)),[]⟩,⟨(bif bif decide (wi ((↑(List.map Bk.a l).length:Int) - 1) < 0) then true else !Sp.hasW (l.getD ((↑l.length:Int) - 1).toNat default).3 77 30000 then true else decide ((↑(List.map (vi) (Sp.codes (l.getD ((↑l.length:Int) - 1).toNat default).3 79)).length:Int) > 0)) == false && true && true,false,40,[ag [vb (l.getD ((↑l.length:Int) - 1).toNat default).1,AV.vec (l.getD ((↑l.length:Int) - 1).toNat default).2 2 (List.map Wo.a (l.getD ((↑l.length:Int) - 1).toNat default).3),AV.str (l.getD ((↑l.length:Int) - 1).toNat default).4],AV.int IntKind.u8 77,vi 99000],[],vb (zSpT7 l),[]⟩,⟨(bif bif bif decide (wi ((↑(List.map Bk.a l).length:Int) - 1) < 0) then true else !Sp.hasW (l.getD ((↑l.length:Int) - 1).toNat default).3 77 30000 then true else decide ((↑(List.map (vi) (Sp.codes (l.getD ((↑l.length:Int) - 1).toNat default).3 79)).length:Int) > 0) then true else Sp.hasW (l.getD ((↑l.length:Int) - 1).toNat default).3 77 99000) == false && true && true,false,27,[AV.vec (g && false) 3 (List.drop 0 (List.take (wi ((↑(List.map Bk.a l).length:Int) - 1)).toNat (List.map Bk.a l))),AV.func (Fn.func 77) [] []],[],vb (Sp.anyP Sp.pMk (zSpT4 l)),[]⟩]⟩ (by kernel_rfl) (bc rfl (bc (Bool.or_true _) (bc (i15.2 k16) (bc (i17.2 k18) (bc (Bool.or_true _) (bc (i19.2 k20) (bc (i21.2 k22) (bc (Bool.or_true _) (bc (i23.2 k24) (bc (i25.2 k26) (bc (Bool.or_true _) (bc (i27.2 k28) (bc (i29.2 k30) (bc (i31.2 k32) b0)))))))))))))) (qc (by (try rw [w1]);(try rw [w3]);all_goals exact (fun h => el_map (k18 ((i_at (i_bf i_dec)).1 h)))) (qc (by (try rw [w1]);(try rw [w3]);all_goals exact (fun h => el_map (k22 ((i_at (i_bf (i_bor i_dec (i_not (i_var _))))).1 h)))) (qc (by (try rw [w1]);(try rw [w3]);(try rw [w8]);all_goals exact (fun h => el_map (k26 ((i_at (i_bf (i_bor (i_bor i_dec (i_not (i_var _))) i_dec))).1 h)))) q0))) (cc (fun hc => ((@ev40 ((l.getD ((↑l.length:Int) - 1).toNat default).1) ((l.getD ((↑l.length:Int) - 1).toNat default).2) ((l.getD ((↑l.length:Int) - 1).toNat default).3) ((l.getD ((↑l.length:Int) - 1).toNat default).4) (77) (30000) (k5 (i4.1 hc))):Ev M1 (Conf.pure 40 [ag [vb (l.getD ((↑l.length:Int) - 1).toNat default).1,AV.vec (l.getD ((↑l.length:Int) - 1).toNat default).2 2 (List.map Wo.a (l.getD ((↑l.length:Int) - 1).toNat default).3),AV.str (l.getD ((↑l.length:Int) - 1).toNat default).4],AV.int IntKind.u8 77,vi 30000]) (vb (zSpT6 l)) [])) (cc (fun hc => ((@ev70 ((l.getD ((↑l.length:Int) - 1).toNat default).1) ((l.getD ((↑l.length:Int) - 1).toNat default).2) ((l.getD ((↑l.length:Int) - 1).toNat default).3) ((l.getD ((↑l.length:Int) - 1).toNat default).4) (79) (k7 (i6.1 hc))):Ev M1 (Conf.pure 70 [ag [vb (l.getD ((↑l.length:Int) - 1).toNat default).1,AV.vec (l.getD ((↑l.length:Int) - 1).toNat default).2 2 (List.map Wo.a (l.getD ((↑l.length:Int) - 1).toNat default).3),AV.str (l.getD ((↑l.length:Int) - 1).toNat default).4],AV.int IntKind.u8 79]) (zSpT8 l) [])) (cc (fun hc => ((@ev40 ((l.getD ((↑l.length:Int) - 1).toNat default).1) ((l.getD ((↑l.length:Int) - 1).toNat default).2) ((l.getD ((↑l.length:Int) - 1).toNat default).3) ((l.getD ((↑l.length:Int) - 1).toNat default).4) (77) (99000) (k10 (i9.1 hc))):Ev M1 (Conf.pure 40 [ag [vb (l.getD ((↑l.length:Int) - 1).toNat default).1,AV.vec (l.getD ((↑l.length:Int) - 1).toNat default).2 2 (List.map Wo.a (l.getD ((↑l.length:Int) - 1).toNat default).3),AV.str (l.getD ((↑l.length:Int) - 1).toNat default).4],AV.int IntKind.u8 77,vi 99000]) (vb (zSpT7 l)) [])) (cc (fun hc => ((by (try rw [w1]);(try rw [w3]);(try rw [w11]);(try rw [w12]);all_goals exact (@ev27_a (g && false) (zSpT4 l) (k14 (i13.1 hc)))):Ev M1 (Conf.pure 27 [AV.vec (g && false) 3 (List.drop 0 (List.take (wi ((↑(List.map Bk.a l).length:Int) - 1)).toNat (List.map Bk.a l))),AV.func (Fn.func 77) [] []]) (vb (Sp.anyP Sp.pMk (zSpT4 l))) [])) c0)))) ?_
 rcases xm ((((((↑l.length:Int) - 1 < 0) \/ (¬(zSpT2 l))) \/ (zSpT3 l)) \/ (zSpT5 l)) \/ (Sp.anyP Sp.pMk (zSpT4 l) = true)) with d37 | d37
 ·have H:=H.1 d37
  exact path_re (G:=given kp62 [] []) 1000 [true] (vb false) (by kernel_rfl) (bc (beq_t (i36.2 d37)) b0) q0 c0 H
 ·have H:=H.2 d37
  obtain ⟨k38,H⟩:=H
  exact path_re (G:=given kp62 [(4,2,.call (vb (Sp.anyP Sp.sMk s)) none)] []) 1000 [false] (vb !Sp.anyP Sp.sMk s) (by kernel_rfl) (bc (beq_f (fun h => d37 (i36.1 h))) (bc rfl b0)) q0 (ce (@ev78_a (h) (s) k38) c0) H
end Go.Av

namespace Go.Av
open Go.Proofs
namespace Sp
def repB (s:List Sb):Bool:=(List.range' 0 s.length).any fun i => anyP (sIs (s.getD i default).n) (s.take i)
def lastB (l:List Bk):Bk:=l.getD (l.length - 1) default
def ordB (l:List Bk) (s:List Sb):Bool:=decide (0 < l.length) && (endB (lastB l).ws && (!(letB (lastB l).ws 79) && (!(backB (lastB l).ws) && (!(anyP pMk (l.take (l.length - 1))) && !(anyP sMk s)))))
def okSs (s:List Sb):Prop:=s.length <= 1000000 /\ ∀ x ∈ s,okBs x.bl
end Sp
theorem svRpa_loop {h:Bool} {s:List Sb} {dq:AV} (hl:s.length <= 1000000):∀ (c i:Nat),i + c = s.length -> AV.bool ((List.range' i c).any fun i => Sp.anyP (Sp.sIs (s.getD i default).n) (s.take i)) = dq -> svRpa_at h s s.length i (PureQ dq):=by
 intro c
 induction c with
 | zero =>
  intro i hi hq
  exact svRpa _ _ _ _ _ ⟨fun h => by omega,fun _ => hq⟩
 | succ c ih =>
  intro i hi hq
  rw [List.range'_succ,List.any_cons] at hq
  refine svRpa _ _ _ _ _ ⟨fun _ => ?_,fun h => by omega⟩
  rw [Int.toNat_natCast,List.drop_zero]
  refine ⟨by omega,by omega,by simp;omega,by omega,by omega,fun h => ?_,fun h => ⟨by omega,ih (i + 1) (by omega) ?_⟩⟩
  ·rw [h,Bool.true_or] at hq
   exact hq
  ·rw [Bool.eq_false_iff.2 h,Bool.false_or] at hq
   exact hq
theorem ev63 (h:Bool) (s:List Sb) (hl:s.length <= 1000000):Ev M1 (.pure 63 [sbA h s]) (.bool (Sp.repB s)) []:=
 call63 (svRp h s _ (svRpa_loop hl s.length 0 (by omega) rfl))
theorem ev62 (g:Bool) (l:List Bk) (h:Bool) (s:List Sb) (hk:Sp.okBs l /\ Sp.okSs s):Ev M1 (.pure 62 [pgA g h l s]) (.bool (Sp.ordB l s)) []:=by
 obtain ⟨hk,hs⟩:=hk
 have hl:=hk.1
 by_cases h0:l.length = 0
 ·refine call62 (svOd g l h s _ ?_)
  have c:(l.length:Int) - 1 < 0:=by omega
  refine ⟨by omega,fun x => absurd c x,fun x => absurd (.inl c) x,fun x => absurd (.inl (.inl c)) x,fun x => absurd (.inl (.inl (.inl c))) x,fun x => absurd c x,fun x => absurd c x,fun x => absurd (.inl c) x,fun x => absurd (.inl c) x,fun x => absurd (.inl (.inl c)) x,fun x => absurd (.inl (.inl c)) x,fun x => absurd (.inl (.inl (.inl c))) x,fun x => absurd (.inl (.inl (.inl c))) x,fun x => absurd (.inl (.inl (.inl c))) x,fun _ => ?_,fun x => absurd (.inl (.inl (.inl (.inl c)))) x⟩
  unfold Sp.ordB
  rw [decide_eq_false (by omega),Bool.false_and]
 ·have e:(l.length:Int) - 1 = ((l.length - 1:Nat):Int):=by omega
  have hm:=hk.2 _ (getD_mem (show l.length - 1 < l.length by omega))
  have hsub:Sp.okBs (List.drop 0 (List.take (l.length - 1) l)):=okBs_sub hk 0 (l.length - 1)
  refine call62 (svOd g l h s _ ?_)
  rw [e,Int.toNat_natCast]
  refine ⟨by omega,fun _ => hm.1,fun _ => hm.1,fun _ => hm.1,fun _ => hsub,fun _ => by omega,fun _ => by omega,fun _ => by omega,fun _ => by omega,fun _ => by omega,fun _ => by omega,fun _ => by omega,fun _ => by omega,fun _ => by omega,fun x => ?_,fun x => ⟨hs,?_⟩⟩
  ·congr 1
   unfold Sp.ordB Sp.endB Sp.backB Sp.lastB
   rw [List.drop_zero] at x
   rw [decide_eq_true (show 0 < l.length by omega),Bool.true_and,Eq.comm]
   rcases x with (((x | x) | x) | x) | x
   ·omega
   ·rw [Bool.eq_false_iff.2 x,Bool.false_and]
   ·rw [show Sp.letB (l.getD (l.length - 1) default).ws 79 = true from decide_eq_true (by omega),Bool.not_true,Bool.false_and,Bool.and_false]
   ·rw [x,Bool.not_true,Bool.false_and,Bool.and_false,Bool.and_false]
   ·rw [x,Bool.not_true,Bool.false_and,Bool.and_false,Bool.and_false,Bool.and_false]
  ·congr 1
   unfold Sp.ordB Sp.endB Sp.backB Sp.lastB
   rw [List.drop_zero] at x
   have x1:Sp.hasW (l.getD (l.length - 1) default).ws 77 30000 = true:=Classical.byContradiction fun y => x (.inl (.inl (.inl (.inr y))))
   have x2:Sp.letB (l.getD (l.length - 1) default).ws 79 = false:=decide_eq_false fun y => x (.inl (.inl (.inr (by omega))))
   have x3:Sp.hasW (l.getD (l.length - 1) default).ws 77 99000 = false:=Bool.eq_false_iff.2 fun y => x (.inl (.inr y))
   have x4:Sp.anyP Sp.pMk (l.take (l.length - 1)) = false:=Bool.eq_false_iff.2 fun y => x (.inr y)
   rw [decide_eq_true (show 0 < l.length by omega),x1,x2,x3,x4]
   rfl
end Go.Av

namespace Go.Av
open Go.Proofs
set_option maxRecDepth 100000
def fi83:Fi:=⟨29,[.tmp 2]⟩
def kp83:List (Nat × List Nat):=[(0,[1]),(1,[1,6,7,8]),(2,[1,6,7,8,9]),(3,[1,4,6,7,8]),(4,[1,6,7,8,19]),(5,[2]),(6,[1,6,7,8]),(7,[2])]
def svPr_at (g:Bool) (l:List Bk) (h:Bool) (s:List Sb) (Q:AV -> Heap -> Prop):Prop:=Wp M1 (.run fi83 (atC (cd Try.f83) []) [(0,.agg [.vec g 3 (l.map Bk.a),.vec h 2 (s.map Sb.a)])] []) Q
def svPra_at (g:Bool) (l:List Bk) (h:Bool) (s:List Sb) (n i:Int) (Q:AV -> Heap -> Prop):Prop:=Wp M1 (.run fi83 (atC (cd Try.f83) [1,0,1,0,0]) [(1,.ptr 0 0 0 0),(6,.vec h 2 (s.map Sb.a)),(7,.int .i64 n),(8,.int .i64 i)] [⟨[.agg [.vec g 3 (l.map Bk.a),.vec h 2 (s.map Sb.a)]],2,0,false,false⟩]) Q
theorem call83 {args:List AV} {d:AV} (h:wc M1 fi83 Try.f83 args d):Ev M1 (.pure 83 args) d []:=pcl _ _ (by kernel_rfl) h
theorem svPr (g:Bool) (l:List Bk) (h:Bool) (s:List Sb)  (dq:AV) (H :
  svPra_at (g) (l) (h) (s) ((↑s.length:Int)) (0) (PureQ dq)) :
 svPr_at g l h s (PureQ dq):=by
 unfold svPr_at
 have w1:(List.map Sb.a s).length = s.length:=List.length_map ..
 exact path_wp (G:=given kp83 [] []) 1000 [] ⟨(atC (cd Try.f83) [1,0,1,0,0]),[(1,AV.ptr 0 0 0 0),(6,AV.vec h 2 (List.map Sb.a s)),(7,vi (↑(List.map Sb.a s).length:Int)),(8,vi 0)],[⟨[ag [AV.vec g 3 (List.map Bk.a l),AV.vec h 2 (List.map Sb.a s)]],2,0,false,false⟩],_,[],_⟩ (by kernel_rfl) (bc rfl b0) q0 c0 (by (try rw [w1]);all_goals exact H)
theorem svPra (g:Bool) (l:List Bk) (h:Bool) (s:List Sb) (n i:Int)  (dq:AV) (H :
  ((i < n) -> (0 <= i) /\
   (i.toNat < s.length) /\
   ((((s.getD i.toNat default).n < 1) \/ ((s.getD i.toNat default).n > 9999)) -> vb false = dq) /\
   (¬(((s.getD i.toNat default).n < 1) \/ ((s.getD i.toNat default).n > 9999)) -> (-9223372036854775808 <= i + 1 /\ i + 1 <= 9223372036854775807) /\
    svPra_at (g) (l) (h) (s) (n) (i + 1) (PureQ dq))) /\
  (¬(i < n) -> (Sp.okBs l /\ Sp.okSs s) /\
   ((Sp.ordB l s = true) -> (s.length <= 1000000)) /\
   (vb (bif Sp.ordB l s then !Sp.repB s else false)) = dq)) :
 svPra_at g l h s n i (PureQ dq):=by
 unfold svPra_at
 rcases xm (i < n) with d2 | d2
 ·have H:=H.1 d2
  obtain ⟨k4,H⟩:=H
  have w5:(List.map Sb.a s).length = s.length:=List.length_map ..
  have i6:(decide (i.toNat < (List.map Sb.a s).length)) = true ↔ (i.toNat < s.length):=(by (try rw [w5]);all_goals exact i_dec)
  obtain ⟨k7,H⟩:=H
  refine path_wp (G:=given kp83 [(3,1,.elem (ag [vi (s.getD i.toNat default).n,AV.vec (s.getD i.toNat default).2 3 (List.map Bk.a (s.getD i.toNat default).3)]))] []) 11 [true] ⟨(atC (cd Try.f83) [1,0,1,0,0,1,1,0,0,1,1]),[(1,AV.ptr 0 0 0 0),(6,AV.vec h 2 (List.map Sb.a s)),(7,vi n),(8,vi i),(19,vb (bif decide ((s.getD i.toNat default).n < 1) then true else decide ((s.getD i.toNat default).n > 9999)))],[⟨[ag [AV.vec g 3 (List.map Bk.a l),AV.vec h 2 (List.map Sb.a s)]],2,0,false,false⟩,⟨[ag [vi (s.getD i.toNat default).n,AV.vec (s.getD i.toNat default).2 3 (List.map Bk.a (s.getD i.toNat default).3)]],2,0,false,false⟩],[(decide (i < n)) == true,decide (0 <= i),decide (i.toNat < (List.map Sb.a s).length),true,true,!(decide ((s.getD i.toNat default).n < 1) == false && true) || true],[((List.map Sb.a s).get?Internal i.toNat = some (ag [vi (s.getD i.toNat default).n,AV.vec (s.getD i.toNat default).2 3 (List.map Bk.a (s.getD i.toNat default).3)]))],_⟩ (by kernel_rfl) (bc (beq_t (i_dec.2 d2)) (bc (i_dec.2 k4) (bc (i6.2 k7) (bc rfl (bc rfl (bc (Bool.or_true _) b0)))))) (qc (el_map k7) q0) c0 ?_
  rcases xm (((s.getD i.toNat default).n < 1) \/ ((s.getD i.toNat default).n > 9999)) with d9 | d9
  ·have H:=H.1 d9
   exact path_re (G:=given kp83 [] []) 1000 [true] (vb false) (by kernel_rfl) (bc (beq_t ((i_bor i_dec i_dec).2 d9)) b0) q0 c0 H
  ·have H:=H.2 d9
   obtain ⟨k10,H⟩:=H
   have w11:wi (i + 1) = i + 1:=wI64 k10
   exact path_wp (G:=given kp83 [] []) 1000 [false] ⟨(atC (cd Try.f83) [1,0,1,0,0]),[(1,AV.ptr 0 0 0 0),(6,AV.vec h 2 (List.map Sb.a s)),(7,vi n),(8,vi (wi (i + 1)))],[⟨[ag [AV.vec g 3 (List.map Bk.a l),AV.vec h 2 (List.map Sb.a s)]],2,0,false,false⟩,⟨[ag [vi (s.getD i.toNat default).n,AV.vec (s.getD i.toNat default).2 3 (List.map Bk.a (s.getD i.toNat default).3)]],2,0,false,false⟩],_,[],_⟩ (by kernel_rfl) (bc (beq_f (fun h => d9 ((i_bor i_dec i_dec).1 h))) b0) q0 c0 (by (try rw [w11]);all_goals exact wp_narrow [0] (by kernel_rfl) H)
 ·have H:=H.2 d2
  obtain ⟨k12,H⟩:=H
  obtain ⟨k14,H⟩:=H
  exact path_re (G:=given kp83 [(7,1,.call (vb (Sp.ordB l s)) none),(7,5,.call (vb (Sp.repB s)) none)] []) 1000 [false] (asm:=[(decide (i < n)) == false,true,!(Sp.ordB l s == true && true) || true]) (calls:=[⟨true,false,62,[ag [AV.vec g 3 (List.map Bk.a l),AV.vec h 2 (List.map Sb.a s)]],[],vb (Sp.ordB l s),[]⟩,⟨Sp.ordB l s == true && true && true,false,63,[AV.vec h 2 (List.map Sb.a s)],[],vb (Sp.repB s),[]⟩]) (vb (bif Sp.ordB l s then !Sp.repB s else false)) (by kernel_rfl) (bc (beq_f (fun h => d2 (i_dec.1 h))) (bc rfl (bc (Bool.or_true _) b0))) q0 (cc (fun _ => (@ev62 (g) (l) (h) (s) k12)) (cc (fun hc => ((@ev63 (h) (s) (k14 ((i_at (i_at (i_bt (i_var _)))).1 hc))):Ev M1 (Conf.pure 63 [AV.vec h 2 (List.map Sb.a s)]) (vb (Sp.repB s)) [])) c0)) H
end Go.Av

namespace Go.Av
open Go.RowKit
end Go.Av

namespace Go.Av
open Go.Proofs
namespace Sp
def numB (s:List Sb):Bool:=s.all fun x => decide (1 <= x.n /\ x.n <= 9999)
def prpB (l:List Bk) (s:List Sb):Bool:=numB s && (ordB l s && !(repB s))
def spl (l:List Bk):Nat -> List Bk -> List Sb -> List Bk × List Sb × Int
 | 0,_,_ => ([],[],1)
 | f + 1,r,s =>
  if r.length = 0 then (if ordB l s = true then (if repB s = true then ([],[],5) else (l,s,0)) else ([],[],1))
  else if bgB (r.getD 0 default).sk (r.getD 0 default).ws (r.getD 0 default).cm = true /\ ¬idxP pStop r < 0 then
   spl l f (r.drop (idxP pStop r + 1).toNat) (s ++ [⟨bgV (r.getD 0 default).sk (r.getD 0 default).ws (r.getD 0 default).cm,false,(r.take (idxP pStop r).toNat).drop 1⟩])
  else ([],[],1)
def split (l:List Bk):List Bk × List Sb × Int:=
 if idxP pEnd l < 0 then ([],[],1) else spl (l.take (idxP pEnd l + 1).toNat) (l.length + 1) (l.drop (idxP pEnd l + 1).toNat) []
end Sp
theorem svPra_loop {g h:Bool} {l:List Bk} {s:List Sb} {dq:AV} (hk:Sp.okBs l /\ Sp.okSs s):∀ (c i:Nat),i + c = s.length -> AV.bool ((s.drop i).all (fun x => decide (1 <= x.n /\ x.n <= 9999)) && (Sp.ordB l s && !(Sp.repB s))) = dq -> svPra_at g l h s s.length i (PureQ dq):=by
 have hl:=hk.2.1
 intro c
 induction c with
 | zero =>
  intro i hi hq
  rw [List.drop_eq_nil_of_le (by omega)] at hq
  refine svPra _ _ _ _ _ _ _ ⟨fun h => by omega,fun _ => ⟨hk,fun _ => hl,?_⟩⟩
  rw [<- hq]
  cases Sp.ordB l s <;> rfl
 | succ c ih =>
  intro i hi hq
  rw [drop_getD (show i < s.length by omega),List.all_cons] at hq
  refine svPra _ _ _ _ _ _ _ ⟨fun _ => ?_,fun h => by omega⟩
  rw [Int.toNat_natCast]
  refine ⟨by omega,by omega,fun h => ?_,fun h => ⟨by omega,ih (i + 1) (by omega) ?_⟩⟩
  ·rw [decide_eq_false (by omega),Bool.false_and,Bool.false_and] at hq
   exact hq
  ·rw [decide_eq_true (by omega),Bool.true_and] at hq
   exact hq
theorem ev83 (g h:Bool) (l:List Bk) (s:List Sb) (hk:Sp.okBs l /\ Sp.okSs s):Ev M1 (.pure 83 [pgA g h l s]) (.bool (Sp.prpB l s)) []:=
 call83 (svPr g l h s _ (svPra_loop hk s.length 0 (by omega) rfl))
end Go.Av

namespace Go.Av
open Go.Proofs
set_option maxRecDepth 100000
def fi19:Fi:=⟨22,[.tmp 4]⟩
def kp19:List (Nat × List Nat):=[(0,[1,2]),(1,[1,2,5]),(2,[1,2,5,10]),(3,[1,2,5]),(4,[1,2,5,20]),(5,[4]),(6,[4])]
def svFn_at (g:Bool) (l:List Bk) (h:Bool) (s:List Sb) (m:Int) (Q:AV -> Heap -> Prop):Prop:=Wp M1 (.run fi19 (atC (cd Try.f19) []) [(0,.agg [.vec g 3 (l.map Bk.a),.vec h 2 (s.map Sb.a)]),(1,.int .i64 m)] []) Q
def svFna_at (g:Bool) (l:List Bk) (h:Bool) (s:List Sb) (m i:Int) (Q:AV -> Heap -> Prop):Prop:=Wp M1 (.run fi19 (atC (cd Try.f19) [1,0,1,0,0]) [(1,.int .i64 m),(2,.ptr 0 0 0 0),(5,.int .i64 i)] [⟨[.agg [.vec g 3 (l.map Bk.a),.vec h 2 (s.map Sb.a)]],2,0,false,false⟩]) Q
theorem call19 {args:List AV} {d:AV} (h:wc M1 fi19 Try.f19 args d):Ev M1 (.pure 19 args) d []:=pcl _ _ (by kernel_rfl) h
theorem svFn (g:Bool) (l:List Bk) (h:Bool) (s:List Sb) (m:Int)  (dq:AV) (H :
  svFna_at (g) (l) (h) (s) (m) (0) (PureQ dq)) :
 svFn_at g l h s m (PureQ dq):=by
 unfold svFn_at
 exact path_wp (G:=given kp19 [] []) 1000 [] ⟨(atC (cd Try.f19) [1,0,1,0,0]),[(1,vi m),(2,AV.ptr 0 0 0 0),(5,vi 0)],[⟨[ag [AV.vec g 3 (List.map Bk.a l),AV.vec h 2 (List.map Sb.a s)]],2,0,false,false⟩],_,[],_⟩ (by kernel_rfl) b0 q0 c0 (H)
theorem svFna (g:Bool) (l:List Bk) (h:Bool) (s:List Sb) (m i:Int)  (dq:AV) (H :
  ((i < (↑s.length:Int)) -> (0 <= i) /\
   (i.toNat < s.length) /\
   (((s.getD i.toNat default).n = m) -> vi i = dq) /\
   (¬((s.getD i.toNat default).n = m) -> (-9223372036854775808 <= i + 1 /\ i + 1 <= 9223372036854775807) /\
    svFna_at (g) (l) (h) (s) (m) (i + 1) (PureQ dq))) /\
  (¬(i < (↑s.length:Int)) -> vi (-1) = dq)) :
 svFna_at g l h s m i (PureQ dq):=by
 unfold svFna_at
 have w1:(List.map Sb.a s).length = s.length:=List.length_map ..
 have i2:(decide (i < (↑(List.map Sb.a s).length:Int))) = true ↔ (i < (↑s.length:Int)):=(by (try rw [w1]);all_goals exact i_dec)
 rcases xm (i < (↑s.length:Int)) with d3 | d3
 ·have H:=H.1 d3
  obtain ⟨k5,H⟩:=H
  have i6:(decide (i.toNat < (List.map Sb.a s).length)) = true ↔ (i.toNat < s.length):=(by (try rw [w1]);all_goals exact i_dec)
  obtain ⟨k7,H⟩:=H
  refine path_wp (G:=given kp19 [(4,5,.elem (ag [vi (s.getD i.toNat default).n,AV.vec (s.getD i.toNat default).2 3 (List.map Bk.a (s.getD i.toNat default).3)]))] []) 9 [true] ⟨(atC (cd Try.f19) [1,0,1,0,0,1,0,0,1]),[(1,vi m),(2,AV.ptr 0 0 0 0),(5,vi i),(20,vb ((s.getD i.toNat default).n == m))],[⟨[ag [AV.vec g 3 (List.map Bk.a l),AV.vec h 2 (List.map Sb.a s)]],2,0,false,false⟩],_,[((List.map Sb.a s).get?Internal i.toNat = some (ag [vi (s.getD i.toNat default).n,AV.vec (s.getD i.toNat default).2 3 (List.map Bk.a (s.getD i.toNat default).3)]))],_⟩ (by kernel_rfl) (bc rfl (bc (beq_t (i2.2 d3)) (bc rfl (bc (i_dec.2 k5) (bc (i6.2 k7) b0))))) (qc (el_map k7) q0) c0 ?_
  rcases xm ((s.getD i.toNat default).n = m) with d9 | d9
  ·have H:=H.1 d9
   exact path_re (G:=given kp19 [] []) 1000 [true] (vi i) (by kernel_rfl) (bc (beq_t (i_eq.2 d9)) b0) q0 c0 H
  ·have H:=H.2 d9
   obtain ⟨k10,H⟩:=H
   have w11:wi (i + 1) = i + 1:=wI64 k10
   exact path_wp (G:=given kp19 [] []) 1000 [false] ⟨(atC (cd Try.f19) [1,0,1,0,0]),[(1,vi m),(2,AV.ptr 0 0 0 0),(5,vi (wi (i + 1)))],[⟨[ag [AV.vec g 3 (List.map Bk.a l),AV.vec h 2 (List.map Sb.a s)]],2,0,false,false⟩],_,[],_⟩ (by kernel_rfl) (bc (beq_f (fun h => d9 (i_eq.1 h))) b0) q0 c0 (by (try rw [w11]);all_goals exact H)
 ·have H:=H.2 d3
  exact path_re (G:=given kp19 [] []) 1000 [false] (vi (-1)) (by kernel_rfl) (bc rfl (bc (beq_f (fun h => d3 (i2.1 h))) b0)) q0 c0 H
end Go.Av

namespace Go.Av
open Go.Proofs
namespace Sp
def isN (m:Int) (x:Sb):Bool:=decide (x.n = m)
def fnd (s:List Sb) (m:Int):Int:=idxP (isN m) s
end Sp
theorem svFna_loop {g h:Bool} {l:List Bk} {s:List Sb} {m:Int} {dq:AV} (hl:s.length <= 1000000):∀ (c i:Nat),i + c = s.length -> AV.int .i64 (Sp.idxF (Sp.isN m) (s.drop i) i) = dq -> svFna_at g l h s m i (PureQ dq):=by
 intro c
 induction c with
 | zero =>
  intro i hi hq
  rw [List.drop_eq_nil_of_le (by omega)] at hq
  exact svFna _ _ _ _ _ _ _ ⟨fun h => by omega,fun _ => hq⟩
 | succ c ih =>
  intro i hi hq
  rw [drop_getD (show i < s.length by omega),Sp.idxF] at hq
  refine svFna _ _ _ _ _ _ _ ⟨fun _ => ?_,fun h => by omega⟩
  rw [Int.toNat_natCast]
  refine ⟨by omega,by omega,fun h => ?_,fun h => ⟨by omega,ih (i + 1) (by omega) ?_⟩⟩
  ·rw [if_pos (show Sp.isN m (s.getD i default) = true from decide_eq_true h)] at hq
   exact hq
  ·rw [if_neg (show ¬Sp.isN m (s.getD i default) = true from by rw [show Sp.isN m (s.getD i default) = false from decide_eq_false h];simp)] at hq
   exact hq
theorem ev19 (g h:Bool) (l:List Bk) (s:List Sb) (m:Int) (hl:s.length <= 1000000):Ev M1 (.pure 19 [pgA g h l s,.int .i64 m]) (.int .i64 (Sp.fnd s m)) []:=
 call19 (svFn g l h s m _ (svFna_loop hl s.length 0 (by omega) rfl))
end Go.Av

namespace Go.Av
open Go.Proofs
set_option maxRecDepth 100000
end Go.Av

namespace Go.Av
open Go.Proofs
namespace Sp
def ordM (l:List Bk):Bool:=ordB l []
end Sp
theorem ordB_eq (l:List Bk) (s:List Sb):Sp.ordB l s = (Sp.ordM l && !(Sp.anyP Sp.sMk s)):=by
 unfold Sp.ordM Sp.ordB
 simp [Sp.anyP,Bool.and_assoc]
theorem any_at {α:Type} [Inhabited α] {p:α -> Bool} {r:List α} {i:Nat} (hi:i < r.length) (h:p (r.getD i default) = true):r.any p = true:=List.any_eq_true.2 ⟨_,getD_mem hi,h⟩
theorem any_no {α:Type} [Inhabited α] {p:α -> Bool} {r:List α} (h:∀ j,j < r.length -> p (r.getD j default) = false):r.any p = false:=by
 rw [List.any_eq_false]
 intro x hx
 obtain ⟨j,hj,rfl⟩:=List.getElem_of_mem hx
 have:=h j hj
 rw [List.getD_eq_getElem?_getD,List.getElem?_eq_getElem hj] at this
 simpa using this
theorem getD_take' {α:Type} [Inhabited α] {r:List α} {k j:Nat} (h:j < k):(r.take k).getD j default = r.getD j default:=by
 rw [List.getD_eq_getElem?_getD,List.getD_eq_getElem?_getD,List.getElem?_take_of_lt h]
theorem ordM_last {m:List Bk} {n:Nat} (h:m.length = n + 1) (hb:Sp.backB (m.getD n default).ws = true \/ Sp.letB (m.getD n default).ws 79 = true):Sp.ordM m = false:=by
 unfold Sp.ordM Sp.ordB Sp.lastB
 rw [h,Nat.add_sub_cancel]
 revert hb;generalize m.getD n default = b;intro hb
 rcases hb with hb | hb <;> simp [hb]
theorem ordM_in {m:List Bk} {n i:Nat} (h:m.length = n + 1) (hi:i < n) (hb:Sp.pMk (m.getD i default) = true):Sp.ordM m = false:=by
 unfold Sp.ordM Sp.ordB Sp.lastB
 rw [h,Nat.add_sub_cancel]
 have:Sp.anyP Sp.pMk (m.take n) = true:=any_at (i:=i) (by simp;omega) (by rw [getD_take' hi];exact hb)
 simp [this]
theorem ordM_ok {m:List Bk} {n:Nat} (h:m.length = n + 1) (he:Sp.endB (m.getD n default).ws = true) (hb:Sp.backB (m.getD n default).ws = false) (ho:Sp.letB (m.getD n default).ws 79 = false) (ha:∀ j,j < n -> Sp.pMk (m.getD j default) = false):Sp.ordM m = true:=by
 unfold Sp.ordM Sp.ordB Sp.lastB
 rw [h,Nat.add_sub_cancel]
 have:Sp.anyP Sp.pMk (m.take n) = false:=any_no fun j hj => by
  simp at hj
  rw [getD_take' (by omega)];exact ha j (by omega)
 rw [this,he,hb,ho,decide_eq_true (by omega)];rfl
theorem fnd_any (s:List Sb) (m:Int):decide (Sp.fnd s m >= 0) = Sp.anyP (Sp.isN m) s:=by
 unfold Sp.fnd Sp.idxP Sp.anyP
 rcases idxF_ge (Sp.isN m) s 0 (by omega) with ⟨h1,h2⟩ | ⟨h1,_,h2⟩
 ·rw [h1,h2];rfl
 ·rw [h2];exact decide_eq_true h1
theorem sIs_isN (m:Int):Sp.sIs m = Sp.isN m:=by
 funext x
 unfold Sp.sIs Sp.isN Sp.eqI
 rw [show (m == x.n) = decide (m = x.n) from rfl]
 exact decide_eq_decide.2 ⟨Eq.symm,Eq.symm⟩
theorem any_congr' {α:Type} {l:List α} {p q:α -> Bool} (h:∀ x ∈ l,p x = q x):l.any p = l.any q:=by
 induction l with
 | nil => rfl
 | cons a l ih => rw [List.any_cons,List.any_cons,h a (by simp),ih fun x hx => h x (by simp [hx])]
end Go.Av

namespace Go.Av
open Go.RowKit
def WkCells (xs ys:List AV):Prop:=ys.length = xs.length /\ ∀ (i:Nat) x y,xs[i]? = some x -> ys[i]? = some y ->
 y.cells.length = x.cells.length /\ y.cells.all AV.plain = true /\ ∀ (k:Nat) c d,x.cells[k]? = some c -> y.cells[k]? = some d -> (d = c \/ (c.clean = true /\ Weak c d))
theorem wp_weaken {M:Mach} (hm:(M.P ()).follows .mixedOrders = true) {fi:Fi} {k:List Item} {env:Vars} {L L':Heap} {Q:AV -> Heap -> Prop} (r:Nat) (row:Row) (ys:List AV) (hr:L[r]? = some row) (hL:L.set r { row with elems:=ys } = L') (hw:WkCells row.elems ys) (h:Wp M (.run fi k env L') Q):Wp M (.run fi k env L) Q:=by
 refine .sem fun S b a cs fn h1 h2 h3 h4 h5 h6 h7 h8 => ?_
 subst h6;subst hL
 have hlen:(S.L.set r { row with elems:=ys }).length = S.L.length:=by simp
 have fwd:∀ (q:Nat) x,S.L[q]? = some x -> ∃ x',(S.L.set r { row with elems:=ys })[q]? = some x' /\ x'.ver = x.ver /\ x'.elems.length = x.elems.length /\ x'.frozen = x.frozen:=by
  intro q x hx
  rw [List.getElem?_set]
  by_cases e:r = q
  ·subst e
   rw [hr] at hx;simp only [Option.some.injEq] at hx;subst hx
   simp [lt_of_get hr]
   exact hw.1
  ·rw [if_neg e];exact ⟨x,hx,rfl,rfl,rfl⟩
 have hX:=relabel h5 hlen fwd
 have back:∀ (q:Nat) x,(S.L.set r { row with elems:=ys })[q]? = some x -> (S.L[q]? = some x) \/ (q = r /\ x = { row with elems:=ys }):=by
  intro q x hx
  rw [List.getElem?_set] at hx
  by_cases e:r = q
  ·subst e;simp [lt_of_get hr] at hx;exact .inr ⟨rfl,hx.symm⟩
  ·rw [if_neg e] at hx;exact .inl hx
 have wk:∀ {c d:AV} {v:Value},Rel S c v -> (d = c \/ (c.clean = true /\ Weak c d)) -> Rel ⟨S.base,S.acc,S.L.set r { row with elems:=ys },S.β,S.w⟩ d v:=by
  intro c d v hc hd
  rcases hd with rfl | ⟨h1,h2⟩
  ·exact hc.mono hX
  ·exact .data _ _ (weak_rel h2 ((rel_clean hc h1).mono hX))
 have wkd:∀ {c d:AV} {v:Value},DRel S c v -> (d = c \/ (c.clean = true /\ Weak c d)) -> DRel ⟨S.base,S.acc,S.L.set r { row with elems:=ys },S.β,S.w⟩ d v:=by
  intro c d v hc hd
  rcases hd with rfl | ⟨_,h2⟩
  ·exact hc.mono hX
  ·exact weak_rel h2 (hc.mono hX)
 have elem:∀ (i:Nat) y,ys[i]? = some y -> ∃ x,row.elems[i]? = some x /\ y.cells.length = x.cells.length /\ y.cells.all AV.plain = true /\ ∀ (k:Nat) d,y.cells[k]? = some d -> ∃ c,x.cells[k]? = some c /\ (d = c \/ (c.clean = true /\ Weak c d)):=by
  intro i y hy
  have hlt:i < row.elems.length:=by rw [<- hw.1];exact lt_of_get hy
  obtain ⟨w1,w2,w3⟩:=hw.2 i _ y (List.getElem?_eq_getElem hlt) hy
  refine ⟨_,List.getElem?_eq_getElem hlt,w1,w2,fun k d hd => ?_⟩
  have hk:k < row.elems[i].cells.length:=by rw [<- w1];exact lt_of_get hd
  exact ⟨_,List.getElem?_eq_getElem hk,w3 k _ d (List.getElem?_eq_getElem hk) hd⟩
 have hOk:HeapOk ⟨S.base,S.acc,S.L.set r { row with elems:=ys },S.β,S.w⟩:=by
  refine ⟨h5.base,by simp [h5.len],h5.blk,h5.inj,fun q x info hx hi hmp => ?_,fun q x info hx hi hmp => ?_,fun q x hx => ?_,fun q x info i z k c cv hx hi hz hk hcv => ?_,fun q x info i z k c cv hx hi hcl hz hk hcv => ?_,h5.acq,h5.anew⟩
  ·rcases back q x hx with hx | ⟨rfl,rfl⟩
   ·obtain ⟨es,c1,c2,c3,c4⟩:=h5.maps q x info hx hi hmp
    exact ⟨es,c1,c2,c3,fun i e y he hy => (c4 i e y he hy).mono hX⟩
   ·obtain ⟨es,c1,c2,c3,c4⟩:=h5.maps q row info hr hi hmp
    refine ⟨es,c1,by rw [c2];exact hw.1.symm,c3,fun i e y he hy => ?_⟩
    obtain ⟨x,e1,e2,e3,e4⟩:=elem i y hy
    obtain ⟨p1,kk,n,v,rfl,p3,p4,p5,p6⟩:=c4 i e x he e1
    have hy2:∃ d0 d1,y = .agg [d0,d1]:=by
     cases y with
     | agg cs =>
      match cs,e2 with
      | [d0,d1],_ => exact ⟨d0,d1,rfl⟩
     | _ => simp [AV.cells] at e2
    obtain ⟨d0,d1,rfl⟩:=hy2
    obtain ⟨c0,g0,g1⟩:=e4 0 d0 rfl
    simp [AV.cells] at g0;subst g0
    have hd0:d0 = .int kk n:=by
     rcases g1 with rfl | ⟨_,g1⟩
     ·rfl
     ·cases g1;rfl
    subst hd0
    obtain ⟨c1',g2,g3⟩:=e4 1 d1 rfl
    simp [AV.cells] at g2;subst g2
    refine ⟨p1,kk,n,d1,rfl,p3,?_,wk p5 g3,fun hcl => wkd (p6 hcl) g3⟩
    simp [AV.cells] at e3
    exact e3.2
  ·rcases back q x hx with hx | ⟨rfl,rfl⟩
   ·exact h5.cells q x info hx hi hmp
   ·have:=h5.cells q row info hr hi hmp
    rw [<- hw.1] at this
    exact this
  ·rcases back q x hx with hx | ⟨rfl,rfl⟩
   ·exact h5.elems q x hx
   ·intro i y hy
    obtain ⟨x,e1,e2,e3,_⟩:=elem i y hy
    exact ⟨e2.trans (h5.elems q row hr i x e1).1,e3⟩
  ·rcases back q x hx with hx | ⟨rfl,rfl⟩
   ·exact (h5.rel q x info i z k c cv hx hi hz hk hcv).mono hX
   ·obtain ⟨x0,e1,_,_,e4⟩:=elem i z hz
    obtain ⟨c0,g0,g1⟩:=e4 k c hk
    exact wk (h5.rel q row info i x0 k c0 cv hr hi e1 g0 hcv) g1
  ·rcases back q x hx with hx | ⟨rfl,rfl⟩
   ·exact (h5.clean q x info i z k c cv hx hi hcl hz hk hcv).mono hX
   ·obtain ⟨x0,e1,_,_,e4⟩:=elem i z hz
    obtain ⟨c0,g0,g1⟩:=e4 k c hk
    exact wkd (h5.clean q row info i x0 k c0 cv hr hi hcl e1 g0 hcv) g1
 have hV:VRel ⟨S.base,S.acc,S.L.set r { row with elems:=ys },S.β,S.w⟩ env a.tmps:=fun t => (h7 t).mono hX
 obtain ⟨a',todo',Ds,w',β',v,L1,q1,q2,q3,q4,q5,q6,q7,q8,q9⟩:=(wp_sound hm (c:=.run fi k _ _) h:RunSnd M fi k _ _ Q) ⟨S.base,S.acc,S.L.set r { row with elems:=ys },S.β,S.w⟩ b a cs fn h1 h2 h3 h4 hOk rfl hV h8
 exact ⟨a',todo',Ds,w',β',v,L1,q1,q2,q3,q4,q5,q6,q7,q8,hX.trans q9⟩
end Go.Av

namespace Go.Av
open Go.Proofs
end Go.Av

namespace Go.Av
open Go.RowKit
theorem wp_vnil {M:Mach} (hm:(M.P ()).follows .mixedOrders = true) {fi:Fi} {k:List Item} {env:Vars} {L:Heap} {Q:AV -> Heap -> Prop} {es:Nat} (h:Wp M (.run fi k env L) fun v L => Q v L \/ (v = .vnil /\ Q (.vec true es []) L)):Wp M (.run fi k env L) Q:=by
 refine .sem fun S b a cs fn h1 h2 h3 h4 h5 h6 h7 h8 => ?_
 obtain ⟨a',todo',Ds,w',β',v,L1,q1,q2,q3,q4,q5,q6,q7,q8,q9⟩:=(wp_sound hm (c:=.run fi k _ _) h:RunSnd M fi k _ _ _) S b a cs fn h1 h2 h3 h4 h5 h6 h7 h8
 rcases q1 with q1 | ⟨rfl,hQ⟩
 ·exact ⟨a',todo',Ds,w',β',v,L1,q1,q2,q3,q4,q5,q6,q7,q8,q9⟩
 ·refine ⟨a',todo',Ds,w',β',.vec true es [],L1,hQ,q2,q3,q4,q5,q6,fun w'' hn => ?_,q8,q9⟩
  obtain ⟨cv,c1,c2⟩:=q7 w'' hn
  refine ⟨cv,c1,?_⟩
  cases c2 with
  | data _ _ h => cases h;exact .data _ _ (.vecE true es none 0 fun _ => rfl)
end Go.Av

namespace Go.Av
open Go.Proofs
noncomputable def M2:Mach:=⟨fun _ => Try.prog,fun f => [22].contains f || M1.inl f⟩
theorem hm2:(M2.P ()).follows .mixedOrders = true:=by kernel_rfl
end Go.Av

namespace Go.Av
open Go.Proofs
set_option maxRecDepth 100000
def fi17:Fi:=⟨30,[.cell 2 40]⟩
def kp17:List (Nat × List Nat):=[(0,[1,2]),(1,[1,2,3]),(2,[2,3,11,12,13]),(3,[2,3,11,12,13,14]),(4,[2,3,5,11,12,13]),(5,[2,3,11,12,13]),(6,[2,3,11,12,13]),(7,[2])]
def fi44:Fi:=⟨47,[.tmp 2]⟩
def kp44:List (Nat × List Nat):=[(0,[1]),(1,[1,13]),(2,[2]),(3,[1,3]),(4,[1,3,18]),(5,[1,3]),(6,[1,3,46]),(7,[2]),(8,[2])]
def svOw_at (g:Bool) (l:List Bk) (h:Bool) (s:List Sb) (Q:AV -> Heap -> Prop):Prop:=Wp M1 (.run fi17 (atC (cd Try.f17) []) [(0,.agg [.vec g 3 (l.map Bk.a),.vec h 2 (s.map Sb.a)])] []) Q
def svOwz_at (l:List Bk) (h:Bool) (s:List Sb) (n i:Int) (Q:AV -> Heap -> Prop):Prop:=Wp M1 (.run fi17 (atC (cd Try.f17) [1,1,0,1,0,0]) [(2,.ptr 0 0 0 0),(3,.ptr 1 0 0 0),(11,.vec h 2 (s.map Sb.a)),(12,.int .i64 n),(13,.int .i64 i)] [⟨[.agg [.vnil,.vnil]],2,0,false,false⟩,⟨[.agg [.vec false 3 (l.map Bk.a),.vnil]],2,0,false,false⟩]) Q
def svOwa_at (l:List Bk) (h:Bool) (s:List Sb) (n i:Int) (o:List Sb) (v:Nat) (Q:AV -> Heap -> Prop):Prop:=Wp M1 (.run fi17 (atC (cd Try.f17) [1,1,0,1,0,0]) [(2,.ptr 0 0 0 0),(3,.ptr 1 0 0 0),(11,.vec h 2 (s.map Sb.a)),(12,.int .i64 n),(13,.int .i64 i)] [⟨[.agg [.vnil,.vnil]],2,0,false,false⟩,⟨[.agg [.vec false 3 (l.map Bk.a),.row 2 v]],2,0,false,false⟩,⟨o.map Sb.a,2,v,false,true⟩]) Q
def svFw_at (g:Bool) (l:List Bk) (h:Bool) (s:List Sb) (Q:AV -> Heap -> Prop):Prop:=Wp M1 (.run fi44 (atC (cd Try.f44) []) [(0,.agg [.vec g 3 (l.map Bk.a),.vec h 2 (s.map Sb.a)])] []) Q
def svFwa_at (g:Bool) (l:List Bk) (h:Bool) (s:List Sb) (i:Int) (Q:AV -> Heap -> Prop):Prop:=Wp M1 (.run fi44 (atC (cd Try.f44) [1,1,0,1,0,0]) [(1,.ptr 0 0 0 0),(3,.int .i64 i)] [⟨[.agg [.vec g 3 (l.map Bk.a),.vec h 2 (s.map Sb.a)]],2,0,false,false⟩]) Q
theorem call17 {args:List AV} {d:AV} (h:wc M1 fi17 Try.f17 args d):Ev M1 (.pure 17 args) d []:=pcl _ _ (by kernel_rfl) h
theorem call44 {args:List AV} {d:AV} (h:wc M1 fi44 Try.f44 args d):Ev M1 (.pure 44 args) d []:=pcl _ _ (by kernel_rfl) h
theorem svOw (g:Bool) (l:List Bk) (h:Bool) (s:List Sb)  (dq:AV) (H :
  (Sp.few6 l.length) /\
  svOwz_at (l) (h) (s) ((↑s.length:Int)) (0) (PureQ dq)) :
 svOw_at g l h s (PureQ dq):=by
 unfold svOw_at
 obtain ⟨k1,H⟩:=H
 have w2:(List.map Sb.a s).length = s.length:=List.length_map ..
 exact path_wp (G:=given kp17 [(1,2,.call (AV.vec false 3 (List.map Bk.a l)) none)] []) 1000 [] ⟨(atC (cd Try.f17) [1,1,0,1,0,0]),[(2,AV.ptr 1 0 0 0),(3,AV.ptr 2 0 0 0),(11,AV.vec h 2 (List.map Sb.a s)),(12,vi (↑(List.map Sb.a s).length:Int)),(13,vi 0)],[⟨[ag [AV.vec g 3 (List.map Bk.a l),AV.vec h 2 (List.map Sb.a s)]],2,0,false,false⟩,⟨[ag [AV.vnil,AV.vnil]],2,0,false,false⟩,⟨[ag [AV.vec false 3 (List.map Bk.a l),AV.vnil]],2,0,false,false⟩],_,[],_⟩ (by kernel_rfl) (bc rfl (bc rfl (bc rfl b0))) q0 (ce (@ev22 (g) (l) k1) c0) (by (try rw [w2]);all_goals exact wp_narrow [1,2] (by kernel_rfl) H)
theorem svOwz (l:List Bk) (h:Bool) (s:List Sb) (n i:Int)  (dq:AV) (H :
  ((i < n) -> (0 <= i) /\
   (i.toNat < s.length) /\
   (Sp.few6 (s.getD i.toNat default).3.length) /\
   (-9223372036854775808 <= i + 1 /\ i + 1 <= 9223372036854775807) /\
   svOwa_at (l) (h) (s) (n) (i + 1) ([{ n:=(s.getD i.toNat default).n,f:=false,bl:=(s.getD i.toNat default).3 }]) (0) (PureQ dq)) /\
  (¬(i < n) -> Weak (ag [AV.vec false 3 (List.map Bk.a l),AV.vnil]) dq)) :
 svOwz_at l h s n i (PureQ dq):=by
 unfold svOwz_at
 rcases xm (i < n) with d2 | d2
 ·have H:=H.1 d2
  obtain ⟨k4,H⟩:=H
  have w5:(List.map Sb.a s).length = s.length:=List.length_map ..
  have i6:(decide (i.toNat < (List.map Sb.a s).length)) = true ↔ (i.toNat < s.length):=(by (try rw [w5]);all_goals exact i_dec)
  obtain ⟨k7,H⟩:=H
  obtain ⟨k8,H⟩:=H
  obtain ⟨k9,H⟩:=H
  have w10:wi (i + 1) = i + 1:=wI64 k9
  have w11:[ag [vi (s.getD i.toNat default).n,AV.vec false 3 (List.map Bk.a (s.getD i.toNat default).3)]] = List.map Sb.a [{ n:=(s.getD i.toNat default).n,f:=false,bl:=(s.getD i.toNat default).3 }]:=rfl
  exact path_wp (G:=given kp17 [(4,1,.elem (ag [vi (s.getD i.toNat default).n,AV.vec (s.getD i.toNat default).2 3 (List.map Bk.a (s.getD i.toNat default).3)])),(5,6,.call (AV.vec false 3 (List.map Bk.a (s.getD i.toNat default).3)) none)] []) 1000 [true] ⟨(atC (cd Try.f17) [1,1,0,1,0,0]),[(2,AV.ptr 0 0 0 0),(3,AV.ptr 1 0 0 0),(11,AV.vec h 2 (List.map Sb.a s)),(12,vi n),(13,vi (wi (i + 1)))],[⟨[ag [AV.vnil,AV.vnil]],2,0,false,false⟩,⟨[ag [AV.vec false 3 (List.map Bk.a l),AV.row 3 0]],2,0,false,false⟩,⟨[ag [vi (s.getD i.toNat default).n,AV.vec (s.getD i.toNat default).2 3 (List.map Bk.a (s.getD i.toNat default).3)]],2,0,false,false⟩,⟨[ag [vi (s.getD i.toNat default).n,AV.vec false 3 (List.map Bk.a (s.getD i.toNat default).3)]],2,0,false,true⟩],_,[((List.map Sb.a s).get?Internal i.toNat = some (ag [vi (s.getD i.toNat default).n,AV.vec (s.getD i.toNat default).2 3 (List.map Bk.a (s.getD i.toNat default).3)]))],_⟩ (by kernel_rfl) (bc (beq_t (i_dec.2 d2)) (bc (i_dec.2 k4) (bc (i6.2 k7) (bc rfl (bc rfl (bc rfl (bc rfl (bc rfl (bc rfl b0))))))))) (qc (el_map k7) q0) (ce (@ev22 ((s.getD i.toNat default).2) ((s.getD i.toNat default).3) k8) c0) (by (try rw [w10]);(try rw [w11]);all_goals exact wp_narrow [0,1,3] (by kernel_rfl) H)
 ·have H:=H.2 d2
  exact path_rq (G:=given kp17 [] []) 1000 [false] (ag [AV.vec false 3 (List.map Bk.a l),AV.vnil]) (by kernel_rfl) (bc (beq_f (fun h => d2 (i_dec.1 h))) (bc rfl (bc rfl b0))) q0 c0 H
theorem svOwa (l:List Bk) (h:Bool) (s:List Sb) (n i:Int) (o:List Sb) (v:Nat)  (dq:AV) (H :
  ((i < n) -> (0 <= i) /\
   (i.toNat < s.length) /\
   (Sp.few6 (s.getD i.toNat default).3.length) /\
   ((o.length + 1) * 32 <= 1099511627776) /\
   (-9223372036854775808 <= i + 1 /\ i + 1 <= 9223372036854775807) /\
   svOwa_at (l) (h) (s) (n) (i + 1) (o ++ [{ n:=(s.getD i.toNat default).n,f:=false,bl:=(s.getD i.toNat default).3 }]) (v + 1) (PureQ dq)) /\
  (¬(i < n) -> Weak (ag [AV.vec false 3 (List.map Bk.a l),AV.vec false 2 (List.map Sb.a o)]) dq)) :
 svOwa_at l h s n i o v (PureQ dq):=by
 unfold svOwa_at
 rcases xm (i < n) with d2 | d2
 ·have H:=H.1 d2
  obtain ⟨k4,H⟩:=H
  have w5:(List.map Sb.a s).length = s.length:=List.length_map ..
  have i6:(decide (i.toNat < (List.map Sb.a s).length)) = true ↔ (i.toNat < s.length):=(by (try rw [w5]);all_goals exact i_dec)
  obtain ⟨k7,H⟩:=H
  obtain ⟨k8,H⟩:=H
  have w9:(List.map Sb.a o).length = o.length:=List.length_map ..
  have i10:(decide (((List.map Sb.a o).length + 1) * 32 <= 1099511627776)) = true ↔ ((o.length + 1) * 32 <= 1099511627776):=(by (try rw [w9]);all_goals exact i_dec)
  obtain ⟨k11,H⟩:=H
  have w12:List.map Sb.a o ++ [ag [vi (s.getD i.toNat default).n,AV.vec false 3 (List.map Bk.a (s.getD i.toNat default).3)]] = List.map Sb.a (o ++ [{ n:=(s.getD i.toNat default).n,f:=false,bl:=(s.getD i.toNat default).3 }]):=(lm_app rfl rfl)
  obtain ⟨k13,H⟩:=H
  have w14:wi (i + 1) = i + 1:=wI64 k13
  exact path_wp (G:=given kp17 [(4,1,.elem (ag [vi (s.getD i.toNat default).n,AV.vec (s.getD i.toNat default).2 3 (List.map Bk.a (s.getD i.toNat default).3)])),(5,6,.call (AV.vec false 3 (List.map Bk.a (s.getD i.toNat default).3)) none)] []) 1000 [true] ⟨(atC (cd Try.f17) [1,1,0,1,0,0]),[(2,AV.ptr 0 0 0 0),(3,AV.ptr 1 0 0 0),(11,AV.vec h 2 (List.map Sb.a s)),(12,vi n),(13,vi (wi (i + 1)))],[⟨[ag [AV.vnil,AV.vnil]],2,0,false,false⟩,⟨[ag [AV.vec false 3 (List.map Bk.a l),AV.row 2 (v + 1)]],2,0,false,false⟩,⟨List.map Sb.a o ++ [ag [vi (s.getD i.toNat default).n,AV.vec false 3 (List.map Bk.a (s.getD i.toNat default).3)]],2,v + 1,false,true⟩,⟨[ag [vi (s.getD i.toNat default).n,AV.vec (s.getD i.toNat default).2 3 (List.map Bk.a (s.getD i.toNat default).3)]],2,0,false,false⟩],[(decide (i < n)) == true,decide (0 <= i),decide (i.toNat < (List.map Sb.a s).length),true,true,true,true,v == v,decide (((List.map Sb.a o).length + 1) * 32 <= 1099511627776),true],[((List.map Sb.a s).get?Internal i.toNat = some (ag [vi (s.getD i.toNat default).n,AV.vec (s.getD i.toNat default).2 3 (List.map Bk.a (s.getD i.toNat default).3)]))],_⟩ (by kernel_rfl) (bc (beq_t (i_dec.2 d2)) (bc (i_dec.2 k4) (bc (i6.2 k7) (bc rfl (bc rfl (bc rfl (bc rfl (bc (beq_self_eq_true _) (bc (i10.2 k11) (bc rfl b0)))))))))) (qc (el_map k7) q0) (ce (@ev22 ((s.getD i.toNat default).2) ((s.getD i.toNat default).3) k8) c0) (by (try rw [w12]);(try rw [w14]);all_goals exact wp_narrow [0,1,2] (by kernel_rfl) H)
 ·have H:=H.2 d2
  exact path_ret (G:=given kp17 [] []) 1000 [false] (k:=((atC (cd Try.f17) [1,1,1,1])).tail) (env':=[(2,AV.ptr 0 0 0 0)]) (L':=[⟨[ag [AV.vec false 3 (List.map Bk.a l),AV.row 2 v]],2,0,false,false⟩,⟨[ag [AV.vec false 3 (List.map Bk.a l),AV.row 2 v]],2,0,false,false⟩,⟨List.map Sb.a o,2,v,false,true⟩]) (asm:=[(decide (i < n)) == false,true,true]) (eqs:=[]) (calls:=[]) (ag [AV.vec false 3 (List.map Bk.a l),AV.row 2 v]) (by kernel_rfl) (by kernel_rfl) (allB_cons (beq_f (fun h => d2 (i_dec.1 h))) (allB_cons rfl (allB_cons rfl allB_nil))) allP_nil allC_nil (pq_weak (d:=(ag [AV.vec false 3 (List.map Bk.a l),AV.vec false 2 (List.map Sb.a o)])) (bs:=[v == v]) (by kernel_rfl) (by kernel_rfl) (allB_cons (beq_self_eq_true _) allB_nil) (by kernel_rfl) H)
theorem svFw (g:Bool) (l:List Bk) (h:Bool) (s:List Sb)  (dq:AV) (H :
  ((¬((↑s.length:Int) > 12)) -> (Sp.mO 40)) /\
  ((((↑s.length:Int) > 12) \/ (¬(Sp.fewB l 40 = true))) -> vb false = dq) /\
  (¬(((↑s.length:Int) > 12) \/ (¬(Sp.fewB l 40 = true))) -> svFwa_at (g) (l) (h) (s) (0) (PureQ dq))) :
 svFw_at g l h s (PureQ dq):=by
 unfold svFw_at
 have w1:(List.map Sb.a s).length = s.length:=List.length_map ..
 have i2:(decide ((↑(List.map Sb.a s).length:Int) > 12) == false && true && true) = true ↔ (¬((↑s.length:Int) > 12)):=(by (try rw [w1]);all_goals exact (i_at (i_at (i_bf i_dec))))
 obtain ⟨k3,H⟩:=H
 have i4:(bif decide ((↑(List.map Sb.a s).length:Int) > 12) then true else !Sp.fewB l 40) = true ↔ (((↑s.length:Int) > 12) \/ (¬(Sp.fewB l 40 = true))):=(by (try rw [w1]);all_goals exact (i_bor i_dec (i_not (i_var _))))
 refine path_wp (G:=given kp44 [(1,7,.call (vb (Sp.fewB l 40)) none)] []) 5 [] ⟨(atC (cd Try.f44) [1,0,1]),[(1,AV.ptr 0 0 0 0),(13,vb (bif decide ((↑(List.map Sb.a s).length:Int) > 12) then true else !Sp.fewB l 40))],[⟨[ag [AV.vec g 3 (List.map Bk.a l),AV.vec h 2 (List.map Sb.a s)]],2,0,false,false⟩],[true,!(decide ((↑(List.map Sb.a s).length:Int) > 12) == false && true) || true],[],[⟨decide ((↑(List.map Sb.a s).length:Int) > 12) == false && true && true,false,38,[AV.vec g 3 (List.map Bk.a l),vi 40],[],vb (Sp.fewB l 40),[]⟩]⟩ (by kernel_rfl) (bc rfl (bc (Bool.or_true _) b0)) q0 (cc (fun hc => ((@ev38 (g) (l) (40) (k3 (i2.1 hc))):Ev M1 (Conf.pure 38 [AV.vec g 3 (List.map Bk.a l),vi 40]) (vb (Sp.fewB l 40)) [])) c0) ?_
 rcases xm (((↑s.length:Int) > 12) \/ (¬(Sp.fewB l 40 = true))) with d5 | d5
 ·have H:=H.1 d5
  exact path_re (G:=given kp44 [] []) 1000 [true] (vb false) (by kernel_rfl) (bc (beq_t (i4.2 d5)) b0) q0 c0 H
 ·have H:=H.2 d5
  exact path_wp (G:=given kp44 [] []) 1000 [false] ⟨(atC (cd Try.f44) [1,1,0,1,0,0]),[(1,AV.ptr 0 0 0 0),(3,vi 0)],[⟨[ag [AV.vec g 3 (List.map Bk.a l),AV.vec h 2 (List.map Sb.a s)]],2,0,false,false⟩],_,[],_⟩ (by kernel_rfl) (bc (beq_f (fun h => d5 (i4.1 h))) b0) q0 c0 (H)
noncomputable abbrev zSpY1 (s:List Sb) (i:Int):=bif !Sp.fewB (s.getD i.toNat default).3 40 then true else decide ((s.getD i.toNat default).n > 1000000)
noncomputable abbrev zSpY2 (s:List Sb) (i:Int):=bif bif !Sp.fewB (s.getD i.toNat default).3 40 then true else decide ((s.getD i.toNat default).n > 1000000) then true else decide ((s.getD i.toNat default).n < -1000000)
theorem svFwa (g:Bool) (l:List Bk) (h:Bool) (s:List Sb) (i:Int)  (dq:AV) (H :
  ((i < (↑s.length:Int)) -> (Sp.mO 40) /\
   (0 <= i) /\
   (i.toNat < s.length) /\
   ((((¬(Sp.fewB (s.getD i.toNat default).3 40 = true)) \/ ((s.getD i.toNat default).n > 1000000)) \/ ((s.getD i.toNat default).n < -1000000)) -> vb false = dq) /\
   (¬(((¬(Sp.fewB (s.getD i.toNat default).3 40 = true)) \/ ((s.getD i.toNat default).n > 1000000)) \/ ((s.getD i.toNat default).n < -1000000)) -> (-9223372036854775808 <= i + 1 /\ i + 1 <= 9223372036854775807) /\
    svFwa_at (g) (l) (h) (s) (i + 1) (PureQ dq))) /\
  (¬(i < (↑s.length:Int)) -> vb true = dq)) :
 svFwa_at g l h s i (PureQ dq):=by
 unfold svFwa_at
 have w1:(List.map Sb.a s).length = s.length:=List.length_map ..
 have i2:(decide (i < (↑(List.map Sb.a s).length:Int))) = true ↔ (i < (↑s.length:Int)):=(by (try rw [w1]);all_goals exact i_dec)
 rcases xm (i < (↑s.length:Int)) with d3 | d3
 ·have H:=H.1 d3
  obtain ⟨k4,H⟩:=H
  obtain ⟨k6,H⟩:=H
  have i7:(decide (i.toNat < (List.map Sb.a s).length)) = true ↔ (i.toNat < s.length):=(by (try rw [w1]);all_goals exact i_dec)
  obtain ⟨k8,H⟩:=H
  have i10:(!((!Sp.fewB (s.getD i.toNat default).3 40) == false && true) || decide (i.toNat < (List.map Sb.a s).length)) = true ↔ ((¬(¬(Sp.fewB (s.getD i.toNat default).3 40 = true))) -> (i.toNat < s.length)):=(by (try rw [w1]);all_goals exact (i_imp (i_at (i_bf (i_not (i_var _)))) i_dec))
  have i12:(!((zSpY1 s i) == false && true) || decide (i.toNat < (List.map Sb.a s).length)) = true ↔ ((¬((¬(Sp.fewB (s.getD i.toNat default).3 40 = true)) \/ ((s.getD i.toNat default).n > 1000000))) -> (i.toNat < s.length)):=(by (try rw [w1]);all_goals exact (i_imp (i_at (i_bf (i_bor (i_not (i_var _)) i_dec))) i_dec))
  refine path_wp (G:=given kp44 [(6,5,.elem (ag [vi (s.getD i.toNat default).n,AV.vec (s.getD i.toNat default).2 3 (List.map Bk.a (s.getD i.toNat default).3)])),(6,6,.call (vb (Sp.fewB (s.getD i.toNat default).3 40)) none),(6,14,.elem (ag [vi (s.getD i.toNat default).n,AV.vec (s.getD i.toNat default).2 3 (List.map Bk.a (s.getD i.toNat default).3)])),(6,23,.elem (ag [vi (s.getD i.toNat default).n,AV.vec (s.getD i.toNat default).2 3 (List.map Bk.a (s.getD i.toNat default).3)]))] []) 9 [true] ⟨(atC (cd Try.f44) [1,1,0,1,0,0,1,0,0,1]),[(1,AV.ptr 0 0 0 0),(3,vi i),(46,vb (zSpY2 s i))],[⟨[ag [AV.vec g 3 (List.map Bk.a l),AV.vec h 2 (List.map Sb.a s)]],2,0,false,false⟩],[true,(decide (i < (↑(List.map Sb.a s).length:Int))) == true,true,decide (0 <= i),decide (i.toNat < (List.map Sb.a s).length),!((!Sp.fewB (s.getD i.toNat default).3 40) == false && true) || true,!((!Sp.fewB (s.getD i.toNat default).3 40) == false && true) || decide (0 <= i),!((!Sp.fewB (s.getD i.toNat default).3 40) == false && true) || decide (i.toNat < (List.map Sb.a s).length),!((zSpY1 s i) == false && true) || true,!((zSpY1 s i) == false && true) || decide (0 <= i),!((zSpY1 s i) == false && true) || decide (i.toNat < (List.map Sb.a s).length)],[((List.map Sb.a s).get?Internal i.toNat = some (ag [vi (s.getD i.toNat default).n,AV.vec (s.getD i.toNat default).2 3 (List.map Bk.a (s.getD i.toNat default).3)])),(((!Sp.fewB (s.getD i.toNat default).3 40) == false && true) = true -> (List.map Sb.a s).get?Internal i.toNat = some (ag [vi (s.getD i.toNat default).n,AV.vec (s.getD i.toNat default).2 3 (List.map Bk.a (s.getD i.toNat default).3)])),(((zSpY1 s i) == false && true) = true -> (List.map Sb.a s).get?Internal i.toNat = some (ag [vi (s.getD i.toNat default).n,AV.vec (s.getD i.toNat default).2 3 (List.map Bk.a (s.getD i.toNat default).3)]))],_⟩ (by kernel_rfl) (bc rfl (bc (beq_t (i2.2 d3)) (bc rfl (bc (i_dec.2 k6) (bc (i7.2 k8) (bc (Bool.or_true _) (bc ((i_imp (i_at (i_bf (i_not (i_var _)))) i_dec).2 (fun _ => k6)) (bc (i10.2 (fun _ => k8)) (bc (Bool.or_true _) (bc ((i_imp (i_at (i_bf (i_bor (i_not (i_var _)) i_dec))) i_dec).2 (fun _ => k6)) (bc (i12.2 (fun _ => k8)) b0))))))))))) (qc (el_map k8) (qc (fun h => el_map k8) (qc (fun h => el_map k8) q0))) (ce (@ev38 ((s.getD i.toNat default).2) ((s.getD i.toNat default).3) (40) k4) c0) ?_
  rcases xm (((¬(Sp.fewB (s.getD i.toNat default).3 40 = true)) \/ ((s.getD i.toNat default).n > 1000000)) \/ ((s.getD i.toNat default).n < -1000000)) with d16 | d16
  ·have H:=H.1 d16
   exact path_re (G:=given kp44 [] []) 1000 [true] (asm:=[(zSpY2 s i) == true]) (vb false) (by kernel_rfl) (bc (beq_t ((i_bor (i_bor (i_not (i_var _)) i_dec) i_dec).2 d16)) b0) q0 c0 H
  ·have H:=H.2 d16
   obtain ⟨k17,H⟩:=H
   have w18:wi (i + 1) = i + 1:=wI64 k17
   exact path_wp (G:=given kp44 [] []) 1000 [false] ⟨(atC (cd Try.f44) [1,1,0,1,0,0]),[(1,AV.ptr 0 0 0 0),(3,vi (wi (i + 1)))],[⟨[ag [AV.vec g 3 (List.map Bk.a l),AV.vec h 2 (List.map Sb.a s)]],2,0,false,false⟩],[(zSpY2 s i) == false],[],_⟩ (by kernel_rfl) (bc (beq_f (fun h => d16 ((i_bor (i_bor (i_not (i_var _)) i_dec) i_dec).1 h))) b0) q0 c0 (by (try rw [w18]);all_goals exact H)
 ·have H:=H.2 d3
  exact path_re (G:=given kp44 [] []) 1000 [false] (vb true) (by kernel_rfl) (bc rfl (bc (beq_f (fun h => d3 (i2.1 h))) b0)) q0 c0 H
end Go.Av

namespace Go.Av
open Go.Proofs
set_option maxRecDepth 100000
end Go.Av

namespace Go.Av
open Go.Proofs
namespace Sp
def oB (m:Int):Bk:=⟨false,true,[⟨79,1000 * m⟩],[]⟩
def mB:Bk:=⟨false,true,[⟨77,99000⟩],[]⟩
def one (x:Sb):List Bk:=oB x.n :: x.bl ++ [mB]
def joinS (s:List Sb):List Bk:=s.flatMap one
def own (s:List Sb):List Sb:=s.map fun x => ⟨x.n,false,x.bl⟩
def fewP (l:List Bk) (s:List Sb):Bool:=decide ((s.length:Int) <= 12) && (fewB l 40 && s.all fun x => fewB x.bl 40 && decide (-1000000 <= x.n /\ x.n <= 1000000))
end Sp
theorem own_snoc {s:List Sb} {i:Nat} (hi:i < s.length):Sp.own (s.take i) ++ [⟨(s.getD i default).n,false,(s.getD i default).bl⟩] = Sp.own (s.take (i + 1)):=by
 unfold Sp.own
 rw [List.take_add_one,List.map_append,List.getD_eq_getElem?_getD,List.getElem?_eq_getElem hi];rfl
theorem svOwa_loop {h:Bool} {l:List Bk} {s:List Sb} {dq:AV} (hs:s.length <= 1000000) (hk:∀ x ∈ s,x.bl.length <= 1000000) (hq:pgA false false l (Sp.own s) = dq):∀ (c i v:Nat),i + c = s.length -> svOwa_at l h s s.length i (Sp.own (s.take i)) v (PureQ dq):=by
 intro c
 induction c with
 | zero =>
  intro i v hi
  rw [List.take_of_length_le (by omega)]
  exact svOwa _ _ _ _ _ _ _ _ ⟨fun h => by omega,fun _ => by rw [<- hq];exact .refl _⟩
 | succ c ih =>
  intro i v hi
  refine svOwa _ _ _ _ _ _ _ _ ⟨fun _ => ?_,fun h => by omega⟩
  rw [Int.toNat_natCast]
  refine ⟨by omega,by omega,hk _ (getD_mem (show i < s.length by omega)),by unfold Sp.own;simp;omega,by omega,?_⟩
  rw [own_snoc (by omega)]
  exact ih (i + 1) (v + 1) (by omega)
theorem ev17 (g h:Bool) (l:List Bk) (s:List Sb) (hk:l.length <= 1000000 /\ s.length <= 1000000 /\ ∀ x ∈ s,x.bl.length <= 1000000):Ev M1 (.pure 17 [pgA g h l s]) (pgA false false l (Sp.own s)) []:=by
 obtain ⟨hl,hs,hk⟩:=hk
 refine call17 (svOw _ _ _ _ _ ⟨hl,svOwz _ _ _ _ _ _ ?_⟩)
 by_cases h0:s.length = 0
 ·rw [List.length_eq_zero_iff.1 h0]
  exact ⟨fun h => by simp at h,fun _ => weak_agg2 (.refl _) (.vnil 2)⟩
 ·refine ⟨fun _ => ⟨by omega,by simp;omega,hk _ (getD_mem (by simp;omega)),by omega,?_⟩,fun h => by omega⟩
  have e:=own_snoc (s:=s) (i:=0) (by omega)
  rw [List.take_zero,show Sp.own [] = [] from rfl,List.nil_append] at e
  have:=svOwa_loop (h:=h) (l:=l) hs hk rfl (s.length - 1) 1 0 (by omega)
  rw [<- e] at this
  exact this
theorem svFwa_loop {g h:Bool} {l:List Bk} {s:List Sb} {dq:AV} (hs:s.length <= 12):∀ (c i:Nat),i + c = s.length -> AV.bool ((s.drop i).all fun x => Sp.fewB x.bl 40 && decide (-1000000 <= x.n /\ x.n <= 1000000)) = dq -> svFwa_at g l h s i (PureQ dq):=by
 intro c
 induction c with
 | zero =>
  intro i hi hq
  rw [List.drop_eq_nil_of_le (by omega)] at hq
  exact svFwa _ _ _ _ _ _ ⟨fun h => by omega,fun _ => hq⟩
 | succ c ih =>
  intro i hi hq
  rw [drop_getD (show i < s.length by omega),List.all_cons] at hq
  refine svFwa _ _ _ _ _ _ ⟨fun _ => ?_,fun h => by omega⟩
  rw [Int.toNat_natCast]
  refine ⟨show (40:Int) <= 1000000 by omega,by omega,by omega,fun k => ?_,fun k => ⟨by omega,ih (i + 1) (by omega) ?_⟩⟩
  ·rw [<- hq]
   congr 1
   rcases k with (k | k) | k
   ·rw [Bool.eq_false_iff.2 k];rfl
   ·rw [decide_eq_false (by omega),Bool.and_false];rfl
   ·rw [decide_eq_false (by omega),Bool.and_false];rfl
  ·rw [<- hq,decide_eq_true (p:=-1000000 <= (s.getD i default).n /\ (s.getD i default).n <= 1000000) ⟨by
    have:¬((s.getD i default).n < -1000000):=fun y => k (.inr y)
    omega,by
    have:¬((s.getD i default).n > 1000000):=fun y => k (.inl (.inr y))
    omega⟩,Classical.byContradiction (p:=Sp.fewB (s.getD i default).bl 40 = true) fun y => k (.inl (.inl y))]
   simp
theorem ev44 (g h:Bool) (l:List Bk) (s:List Sb):Ev M1 (.pure 44 [pgA g h l s]) (.bool (Sp.fewP l s)) []:=by
 refine call44 (svFw _ _ _ _ _ ⟨fun _ => show (40:Int) <= 1000000 by omega,fun k => ?_,fun k => ?_⟩)
 ·unfold Sp.fewP
  congr 1
  rcases k with k | k
  ·rw [decide_eq_false (by omega),Bool.false_and]
  ·rw [Bool.eq_false_iff.2 k,Bool.false_and,Bool.and_false]
 ·have k1:¬((s.length:Int) > 12):=fun y => k (.inl y)
  have k2:Sp.fewB l 40 = true:=Classical.byContradiction fun y => k (.inr y)
  refine svFwa_loop (by omega) s.length 0 (by omega) ?_
  unfold Sp.fewP
  rw [decide_eq_true (show (s.length:Int) <= 12 by omega),k2,List.drop_zero,Bool.true_and,Bool.true_and]
end Go.Av

namespace Go.Av
open Go.Proofs
set_option maxRecDepth 100000
def fi15:Fi:=⟨26,[.tmp 2]⟩
def kp15:List (Nat × List Nat):=[(0,[1]),(1,[1,13]),(2,[2]),(3,[15,16,17]),(4,[15,16,17,18]),(5,[4,15,16,17]),(6,[15,16,17,24]),(7,[2]),(8,[15,16,17]),(9,[2])]
def svFl_at (g:Bool) (l:List Bk) (h:Bool) (s:List Sb) (Q:AV -> Heap -> Prop):Prop:=Wp M1 (.run fi15 (atC (cd Try.f15) []) [(0,.agg [.vec g 3 (l.map Bk.a),.vec h 2 (s.map Sb.a)])] []) Q
def svFla_at (h:Bool) (s:List Sb) (n i:Int) (Q:AV -> Heap -> Prop):Prop:=Wp M1 (.run fi15 (atC (cd Try.f15) [1,1,0,1,0,0]) [(15,.vec h 2 (s.map Sb.a)),(16,.int .i64 n),(17,.int .i64 i)] []) Q
theorem call15 {args:List AV} {d:AV} (h:wc M1 fi15 Try.f15 args d):Ev M1 (.pure 15 args) d []:=pcl _ _ (by kernel_rfl) h
theorem svFl (g:Bool) (l:List Bk) (h:Bool) (s:List Sb)  (dq:AV) (H :
  ((¬(¬(Sp.fewP l s = true))) -> (Sp.mO 40)) /\
  (((¬(Sp.fewP l s = true)) \/ (¬(Sp.vals l 40 = true))) -> vb false = dq) /\
  (¬((¬(Sp.fewP l s = true)) \/ (¬(Sp.vals l 40 = true))) -> svFla_at (h) (s) ((↑s.length:Int)) (0) (PureQ dq))) :
 svFl_at g l h s (PureQ dq):=by
 unfold svFl_at
 obtain ⟨k2,H⟩:=H
 refine path_wp (G:=given kp15 [(1,1,.call (vb (Sp.fewP l s)) none),(1,6,.call (vb (Sp.vals l 40)) none)] []) 5 [] ⟨(atC (cd Try.f15) [1,0,1]),[(1,AV.ptr 0 0 0 0),(13,vb (bif !Sp.fewP l s then true else !Sp.vals l 40))],[⟨[ag [AV.vec g 3 (List.map Bk.a l),AV.vec h 2 (List.map Sb.a s)]],2,0,false,false⟩],[true,!((!Sp.fewP l s) == false && true) || true],[],[⟨true,false,44,[ag [AV.vec g 3 (List.map Bk.a l),AV.vec h 2 (List.map Sb.a s)]],[],vb (Sp.fewP l s),[]⟩,⟨(!Sp.fewP l s) == false && true && true,false,12,[AV.vec g 3 (List.map Bk.a l),vi 40],[],vb (Sp.vals l 40),[]⟩]⟩ (by kernel_rfl) (bc rfl (bc (Bool.or_true _) b0)) q0 (cc (fun _ => (@ev44 (g) (h) (l) (s))) (cc (fun hc => ((@ev12 (g) (l) (40) (k2 ((i_at (i_at (i_bf (i_not (i_var _))))).1 hc))):Ev M1 (Conf.pure 12 [AV.vec g 3 (List.map Bk.a l),vi 40]) (vb (Sp.vals l 40)) [])) c0)) ?_
 rcases xm ((¬(Sp.fewP l s = true)) \/ (¬(Sp.vals l 40 = true))) with d4 | d4
 ·have H:=H.1 d4
  exact path_re (G:=given kp15 [] []) 1000 [true] (asm:=[(bif !Sp.fewP l s then true else !Sp.vals l 40) == true]) (vb false) (by kernel_rfl) (bc (beq_t ((i_bor (i_not (i_var _)) (i_not (i_var _))).2 d4)) b0) q0 c0 H
 ·have H:=H.2 d4
  have w5:(List.map Sb.a s).length = s.length:=List.length_map ..
  exact path_wp (G:=given kp15 [] []) 1000 [false] ⟨(atC (cd Try.f15) [1,1,0,1,0,0]),[(15,AV.vec h 2 (List.map Sb.a s)),(16,vi (↑(List.map Sb.a s).length:Int)),(17,vi 0)],[⟨[ag [AV.vec g 3 (List.map Bk.a l),AV.vec h 2 (List.map Sb.a s)]],2,0,false,false⟩],[(bif !Sp.fewP l s then true else !Sp.vals l 40) == false,true],[],_⟩ (by kernel_rfl) (bc (beq_f (fun h => d4 ((i_bor (i_not (i_var _)) (i_not (i_var _))).1 h))) (bc rfl b0)) q0 c0 (by (try rw [w5]);all_goals exact wp_narrow [] (by kernel_rfl) H)
theorem svFla (h:Bool) (s:List Sb) (n i:Int)  (dq:AV) (H :
  ((i < n) -> (0 <= i) /\
   (i.toNat < s.length) /\
   (Sp.mO 40) /\
   ((¬(Sp.vals (s.getD i.toNat default).3 40 = true)) -> vb false = dq) /\
   (¬(¬(Sp.vals (s.getD i.toNat default).3 40 = true)) -> (-9223372036854775808 <= i + 1 /\ i + 1 <= 9223372036854775807) /\
    svFla_at (h) (s) (n) (i + 1) (PureQ dq))) /\
  (¬(i < n) -> vb true = dq)) :
 svFla_at h s n i (PureQ dq):=by
 unfold svFla_at
 rcases xm (i < n) with d2 | d2
 ·have H:=H.1 d2
  obtain ⟨k4,H⟩:=H
  have w5:(List.map Sb.a s).length = s.length:=List.length_map ..
  have i6:(decide (i.toNat < (List.map Sb.a s).length)) = true ↔ (i.toNat < s.length):=(by (try rw [w5]);all_goals exact i_dec)
  obtain ⟨k7,H⟩:=H
  obtain ⟨k8,H⟩:=H
  refine path_wp (G:=given kp15 [(5,1,.elem (ag [vi (s.getD i.toNat default).n,AV.vec (s.getD i.toNat default).2 3 (List.map Bk.a (s.getD i.toNat default).3)])),(6,2,.call (vb (Sp.vals (s.getD i.toNat default).3 40)) none)] []) 11 [true] ⟨(atC (cd Try.f15) [1,1,0,1,0,0,1,1,0,0,1,1]),[(15,AV.vec h 2 (List.map Sb.a s)),(16,vi n),(17,vi i),(24,vb !Sp.vals (s.getD i.toNat default).3 40)],[⟨[ag [vi (s.getD i.toNat default).n,AV.vec (s.getD i.toNat default).2 3 (List.map Bk.a (s.getD i.toNat default).3)]],2,0,false,false⟩],_,[((List.map Sb.a s).get?Internal i.toNat = some (ag [vi (s.getD i.toNat default).n,AV.vec (s.getD i.toNat default).2 3 (List.map Bk.a (s.getD i.toNat default).3)]))],_⟩ (by kernel_rfl) (bc (beq_t (i_dec.2 d2)) (bc (i_dec.2 k4) (bc (i6.2 k7) (bc rfl (bc rfl b0))))) (qc (el_map k7) q0) (ce (@ev12 ((s.getD i.toNat default).2) ((s.getD i.toNat default).3) (40) k8) c0) ?_
  rcases xm (¬(Sp.vals (s.getD i.toNat default).3 40 = true)) with d10 | d10
  ·have H:=H.1 d10
   exact path_re (G:=given kp15 [] []) 1000 [true] (asm:=[(!Sp.vals (s.getD i.toNat default).3 40) == true]) (vb false) (by kernel_rfl) (bc (beq_t ((i_not (i_var _)).2 d10)) b0) q0 c0 H
  ·have H:=H.2 d10
   obtain ⟨k11,H⟩:=H
   have w12:wi (i + 1) = i + 1:=wI64 k11
   exact path_wp (G:=given kp15 [] []) 1000 [false] ⟨(atC (cd Try.f15) [1,1,0,1,0,0]),[(15,AV.vec h 2 (List.map Sb.a s)),(16,vi n),(17,vi (wi (i + 1)))],[⟨[ag [vi (s.getD i.toNat default).n,AV.vec (s.getD i.toNat default).2 3 (List.map Bk.a (s.getD i.toNat default).3)]],2,0,false,false⟩],[(!Sp.vals (s.getD i.toNat default).3 40) == false],[],_⟩ (by kernel_rfl) (bc (beq_f (fun h => d10 ((i_not (i_var _)).1 h))) b0) q0 c0 (by (try rw [w12]);all_goals exact wp_narrow [] (by kernel_rfl) H)
 ·have H:=H.2 d2
  exact path_re (G:=given kp15 [] []) 1000 [false] (vb true) (by kernel_rfl) (bc (beq_f (fun h => d2 (i_dec.1 h))) b0) q0 c0 H
end Go.Av

namespace Go.Av
open Go.Proofs
def Sb.fine (x:Sb):Prop:=Sp.okBs x.bl /\ 1 <= x.n /\ x.n <= 9999
theorem idxF_true {α:Type} [Inhabited α] (p:α -> Bool):∀ (r:List α) (i:Int),0 <= i -> ¬Sp.idxF p r i < 0 -> p (r.getD (Sp.idxF p r i - i).toNat default) = true
 | [],i,_,h => by simp [Sp.idxF] at h
 | b :: r,i,hi,h => by
  rw [Sp.idxF] at h ⊢
  split at h
  ·rename_i hb
   rw [if_pos hb,Int.sub_self];exact hb
  ·rename_i hb
   rw [if_neg hb]
   rcases idxF_ge p r (i + 1) (by omega) with ⟨h1,_⟩ | ⟨h1,_⟩
   ·omega
   ·have:=idxF_true p r (i + 1) (by omega) h
    rw [show (Sp.idxF p r (i + 1) - i).toNat = (Sp.idxF p r (i + 1) - (i + 1)).toNat + 1 by omega]
    exact this
structure Fine (m:List Bk) (N:Nat) (k:List (Bool × List Wo × List UInt8)) (z:List Bk × List Sb × Int):Prop where
 main:z.1 = [] \/ z.1 = m
 len:z.2.1.length <= N
 sub:∀ x ∈ z.2.1,x.fine
 key:z.2.2 = 0 -> z.1 = m /\ (Sp.joinS z.2.1).map Bk.key = k
end Go.Av

namespace Go.Av
open Go.Proofs
theorem svFla_loop {h:Bool} {s:List Sb} {dq:AV} (hs:s.length <= 1000000):∀ (c i:Nat),i + c = s.length -> AV.bool ((s.drop i).all fun x => Sp.vals x.bl 40) = dq -> svFla_at h s s.length i (PureQ dq):=by
 intro c
 induction c with
 | zero =>
  intro i hi hq
  rw [List.drop_eq_nil_of_le (by omega)] at hq
  exact svFla _ _ _ _ _ ⟨fun h => by omega,fun _ => hq⟩
 | succ c ih =>
  intro i hi hq
  rw [drop_getD (show i < s.length by omega),List.all_cons] at hq
  refine svFla _ _ _ _ _ ⟨fun _ => ?_,fun h => by omega⟩
  rw [Int.toNat_natCast]
  refine ⟨by omega,by omega,show (40:Int) <= 1000000 by omega,fun k => ?_,fun k => ⟨by omega,ih (i + 1) (by omega) ?_⟩⟩
  ·rw [<- hq,Bool.eq_false_iff.2 k];rfl
  ·rw [<- hq,Classical.not_not.1 k];rfl
namespace Sp
def fewA (l:List Bk) (s:List Sb):Bool:=fewP l s && (vals l 40 && s.all fun x => vals x.bl 40)
end Sp
theorem ev15 (g h:Bool) (l:List Bk) (s:List Sb):Ev M1 (.pure 15 [pgA g h l s]) (.bool (Sp.fewA l s)) []:=by
 refine call15 (svFl _ _ _ _ _ ⟨fun _ => show (40:Int) <= 1000000 by omega,fun k => ?_,fun k => ?_⟩)
 ·unfold Sp.fewA
  congr 1
  rcases k with k | k
  ·rw [Bool.eq_false_iff.2 k];rfl
  ·rw [Bool.eq_false_iff.2 k,Bool.false_and,Bool.and_false]
 ·have k1:Sp.fewP l s = true:=Classical.byContradiction fun y => k (.inl y)
  have k2:Sp.vals l 40 = true:=Classical.byContradiction fun y => k (.inr y)
  refine svFla_loop ?_ s.length 0 (by omega) ?_
  ·unfold Sp.fewP at k1
   simp only [Bool.and_eq_true] at k1
   have:=of_decide_eq_true k1.1
   omega
  ·unfold Sp.fewA
   rw [k1,k2,List.drop_zero,Bool.true_and,Bool.true_and]
end Go.Av

namespace Go.Av
open Go.Proofs
set_option maxRecDepth 100000
def fi53:Fi:=⟨104,[.tmp 2]⟩
def kp53:List (Nat × List Nat):=[(0,[1]),(1,[1,10]),(2,[2]),(3,[1,3]),(4,[1,3,15]),(5,[1,3]),(6,[1,3,46]),(7,[2]),(8,[1,4]),(9,[1,4,51]),(10,[1,4]),(11,[1,4,5]),(12,[1,4,5,74]),(13,[2]),(14,[1,4,5,6]),(15,[1,4,5,6,79]),(16,[1,4,5,6]),(17,[1,4,5,6,103]),(18,[2]),(19,[2])]
def fi54:Fi:=⟨25,[.tmp 2]⟩
def kp54:List (Nat × List Nat):=[(0,[1]),(1,[1,3]),(2,[1,3,4]),(3,[1,3,4,13]),(4,[1,3,4]),(5,[1,3,4]),(6,[2])]
def fi76:Fi:=⟨9,[.tmp 4]⟩
def kp76:List (Nat × List Nat):=[(0,[0,1]),(1,[4])]
def tvSu_at (a b:Int) (Q:AV -> Heap -> Prop):Prop:=Wp M1 (.run fi76 (atC (cd Try.f76) []) [(0,.int .i64 a),(1,.int .i64 b)] []) Q
def tvBl_at (g:Bool) (y:Bk) (l:List Bk) (h:Bool) (s:List Sb) (Q:AV -> Heap -> Prop):Prop:=Wp M1 (.run fi54 (atC (cd Try.f54) []) [(0,.agg [.vec g 3 ((y :: l).map Bk.a),.vec h 2 (s.map Sb.a)])] []) Q
def tvBla_at (g:Bool) (l:List Bk) (h:Bool) (s:List Sb) (i:Int) (o:List Bk) (v:Nat) (Q:AV -> Heap -> Prop):Prop:=Wp M1 (.run fi54 (atC (cd Try.f54) [1,1,0,1,0,0]) [(1,.ptr 0 0 0 0),(3,.row 1 v),(4,.int .i64 i)] [⟨[.agg [.vec g 3 (l.map Bk.a),.vec h 2 (s.map Sb.a)]],2,0,false,false⟩,⟨o.map Bk.a,3,v,false,true⟩]) Q
def tvPr_at (g:Bool) (l:List Bk) (h:Bool) (s:List Sb) (Q:AV -> Heap -> Prop):Prop:=Wp M1 (.run fi53 (atC (cd Try.f53) []) [(0,.agg [.vec g 3 (l.map Bk.a),.vec h 2 (s.map Sb.a)])] []) Q
def tvPra_at (g:Bool) (l:List Bk) (h:Bool) (s:List Sb) (i:Int) (Q:AV -> Heap -> Prop):Prop:=Wp M1 (.run fi53 (atC (cd Try.f53) [1,1,0,1,0,0]) [(1,.ptr 0 0 0 0),(3,.int .i64 i)] [⟨[.agg [.vec g 3 (l.map Bk.a),.vec h 2 (s.map Sb.a)]],2,0,false,false⟩]) Q
def tvPrb_at (g:Bool) (l:List Bk) (h:Bool) (s:List Sb) (i:Int) (Q:AV -> Heap -> Prop):Prop:=Wp M1 (.run fi53 (atC (cd Try.f53) [1,1,1,0,1,0,0]) [(1,.ptr 0 0 0 0),(4,.int .i64 i)] [⟨[.agg [.vec g 3 (l.map Bk.a),.vec h 2 (s.map Sb.a)]],2,0,false,false⟩]) Q
def tvPrc_at (g:Bool) (l:List Bk) (h:Bool) (s:List Sb) (i:Int) (sn:Int) (sf:Bool) (sb:List Bk) (k:Int) (Q:AV -> Heap -> Prop):Prop:=Wp M1 (.run fi53 (atC (cd Try.f53) [1,1,1,0,1,0,0,1,0,0,1,1,1,0,0]) [(1,.ptr 0 0 0 0),(4,.int .i64 i),(5,.ptr 1 0 0 0),(6,.int .i64 k)] [⟨[.agg [.vec g 3 (l.map Bk.a),.vec h 2 (s.map Sb.a)]],2,0,false,false⟩,⟨[.agg [.int .i64 sn,.vec sf 3 (sb.map Bk.a)]],2,0,false,false⟩]) Q
theorem call53 {args:List AV} {d:AV} (h:wc M1 fi53 Try.f53 args d):Ev M1 (.pure 53 args) d []:=pcl _ _ (by kernel_rfl) h
theorem call54 {args:List AV} {d:AV} (h:wc M1 fi54 Try.f54 args d):Ev M1 (.pure 54 args) d []:=pcl _ _ (by kernel_rfl) h
theorem call76 {args:List AV} {d:AV} (h:wc M1 fi76 Try.f76 args d):Ev M1 (.pure 76 args) d []:=pcl _ _ (by kernel_rfl) h
theorem tvSu (a b:Int)  (dq:AV) (H :
  (-9223372036854775808 <= a + b /\ a + b <= 9223372036854775807) /\
  vi (if a + b < 20001 then a + b else 20001) = dq) :
 tvSu_at a b (PureQ dq):=by
 unfold tvSu_at
 obtain ⟨k1,H⟩:=H
 have w2:wi (a + b) = a + b:=wI64 k1
 exact path_re (G:=given kp76 [] []) 1000 [] (vi (if wi (a + b) < 20001 then wi (a + b) else 20001)) (by kernel_rfl) b0 q0 c0 (by (try rw [w2]);all_goals exact H)
theorem tvBl (g:Bool) (y:Bk) (l:List Bk) (h:Bool) (s:List Sb)  (dq:AV) (H :
  ((0 + (l.length + 1)) * 48 <= 1099511627776) /\
  Wp M1 (.run fi54 (atC (cd Try.f54) [1,1,0,1,0,0]) [(1,AV.ptr 0 0 0 0),(3,AV.row 1 0),(4,vi 0)] [{ elems:=[ag [AV.vec g 3 (ag [vb y.1,AV.vec y.2 2 (List.map Wo.a y.3),AV.str y.4] :: List.map Bk.a l),AV.vec h 2 (List.map Sb.a s)]],es:=2,ver:=0,frozen:=false,clean:=false },{ elems:=ag [vb y.1,AV.vec y.2 2 (List.map Wo.a y.3),AV.str y.4] :: List.map Bk.a l,es:=3,ver:=0,frozen:=false,clean:=true }]) (PureQ dq)) :
 tvBl_at g y l h s (PureQ dq):=by
 unfold tvBl_at
 have w1:(List.map Bk.a l).length = l.length:=List.length_map ..
 have i2:(decide ((0 + ((List.map Bk.a l).length + 1)) * 48 <= 1099511627776)) = true ↔ ((0 + (l.length + 1)) * 48 <= 1099511627776):=(by (try rw [w1]);all_goals exact i_dec)
 obtain ⟨k3,H⟩:=H
 exact path_wp (G:=given kp54 [] []) 1000 [] ⟨(atC (cd Try.f54) [1,1,0,1,0,0]),[(1,AV.ptr 0 0 0 0),(3,AV.row 1 0),(4,vi 0)],[⟨[ag [AV.vec g 3 (ag [vb y.1,AV.vec y.2 2 (List.map Wo.a y.3),AV.str y.4] :: List.map Bk.a l),AV.vec h 2 (List.map Sb.a s)]],2,0,false,false⟩,⟨ag [vb y.1,AV.vec y.2 2 (List.map Wo.a y.3),AV.str y.4] :: List.map Bk.a l,3,0,false,true⟩],_,[],_⟩ (by kernel_rfl) (bc rfl (bc (i2.2 k3) b0)) q0 c0 (H)
theorem tvBla (g:Bool) (l:List Bk) (h:Bool) (s:List Sb) (i:Int) (o:List Bk) (v:Nat)  (dq:AV) (H :
  ((i < (↑s.length:Int)) -> (0 <= i) /\
   (i.toNat < s.length) /\
   ((o.length + (s.getD i.toNat default).3.length) * 48 <= 1099511627776) /\
   (-9223372036854775808 <= i + 1 /\ i + 1 <= 9223372036854775807) /\
   tvBla_at (g) (l) (h) (s) (i + 1) (o ++ (s.getD i.toNat default).3) (v + 1) (PureQ dq)) /\
  (¬(i < (↑s.length:Int)) -> Weak (AV.vec false 3 (List.map Bk.a o)) dq)) :
 tvBla_at g l h s i o v (PureQ dq):=by
 unfold tvBla_at
 have w1:(List.map Sb.a s).length = s.length:=List.length_map ..
 have i2:(decide (i < (↑(List.map Sb.a s).length:Int))) = true ↔ (i < (↑s.length:Int)):=(by (try rw [w1]);all_goals exact i_dec)
 rcases xm (i < (↑s.length:Int)) with d3 | d3
 ·have H:=H.1 d3
  obtain ⟨k5,H⟩:=H
  have i6:(decide (i.toNat < (List.map Sb.a s).length)) = true ↔ (i.toNat < s.length):=(by (try rw [w1]);all_goals exact i_dec)
  obtain ⟨k7,H⟩:=H
  have w8:(List.map Bk.a o).length = o.length:=List.length_map ..
  have w9:(List.map Bk.a (s.getD i.toNat default).3).length = (s.getD i.toNat default).3.length:=List.length_map ..
  have i10:(decide (((List.map Bk.a o).length + (List.map Bk.a (s.getD i.toNat default).3).length) * 48 <= 1099511627776)) = true ↔ ((o.length + (s.getD i.toNat default).3.length) * 48 <= 1099511627776):=(by (try rw [w8]);(try rw [w9]);all_goals exact i_dec)
  obtain ⟨k11,H⟩:=H
  have w12:List.map Bk.a o ++ List.map Bk.a (s.getD i.toNat default).3 = List.map Bk.a (o ++ (s.getD i.toNat default).3):=(lm_app rfl rfl)
  obtain ⟨k13,H⟩:=H
  have w14:wi (i + 1) = i + 1:=wI64 k13
  exact path_wp (G:=given kp54 [(5,6,.elem (ag [vi (s.getD i.toNat default).n,AV.vec (s.getD i.toNat default).2 3 (List.map Bk.a (s.getD i.toNat default).3)]))] []) 1000 [true] ⟨(atC (cd Try.f54) [1,1,0,1,0,0]),[(1,AV.ptr 0 0 0 0),(3,AV.row 1 (v + 1)),(4,vi (wi (i + 1)))],[⟨[ag [AV.vec g 3 (List.map Bk.a l),AV.vec h 2 (List.map Sb.a s)]],2,0,false,false⟩,⟨List.map Bk.a o ++ List.map Bk.a (s.getD i.toNat default).3,3,v + 1,false,true⟩],[true,(decide (i < (↑(List.map Sb.a s).length:Int))) == true,true,decide (0 <= i),decide (i.toNat < (List.map Sb.a s).length),v == v,decide (((List.map Bk.a o).length + (List.map Bk.a (s.getD i.toNat default).3).length) * 48 <= 1099511627776)],[((List.map Sb.a s).get?Internal i.toNat = some (ag [vi (s.getD i.toNat default).n,AV.vec (s.getD i.toNat default).2 3 (List.map Bk.a (s.getD i.toNat default).3)]))],_⟩ (by kernel_rfl) (bc rfl (bc (beq_t (i2.2 d3)) (bc rfl (bc (i_dec.2 k5) (bc (i6.2 k7) (bc (beq_self_eq_true _) (bc (i10.2 k11) b0))))))) (qc (el_map k7) q0) c0 (by (try rw [w12]);(try rw [w14]);all_goals exact H)
 ·have H:=H.2 d3
  exact path_ret (G:=given kp54 [] []) 1000 [false] (k:=((atC (cd Try.f54) [1,1,1,1])).tail) (env':=[(2,AV.row 1 v)]) (L':=[⟨[ag [AV.vec g 3 (List.map Bk.a l),AV.vec h 2 (List.map Sb.a s)]],2,0,false,false⟩,⟨List.map Bk.a o,3,v,false,true⟩]) (asm:=[true,(decide (i < (↑(List.map Sb.a s).length:Int))) == false]) (eqs:=[]) (calls:=[]) (AV.row 1 v) (by kernel_rfl) (by kernel_rfl) (allB_cons rfl (allB_cons (beq_f (fun h => d3 (i2.1 h))) allB_nil)) allP_nil allC_nil (pq_weak (d:=(AV.vec false 3 (List.map Bk.a o))) (bs:=[v == v]) (by kernel_rfl) (by kernel_rfl) (allB_cons (beq_self_eq_true _) allB_nil) (by kernel_rfl) H)
theorem tvPr (g:Bool) (l:List Bk) (h:Bool) (s:List Sb)  (dq:AV) (H :
  (((↑l.length:Int) = 0) -> vb false = dq) /\
  (¬((↑l.length:Int) = 0) -> tvPra_at (g) (l) (h) (s) (0) (PureQ dq))) :
 tvPr_at g l h s (PureQ dq):=by
 unfold tvPr_at
 have w1:(List.map Bk.a l).length = l.length:=List.length_map ..
 have i2:((↑(List.map Bk.a l).length:Int) == 0) = true ↔ ((↑l.length:Int) = 0):=(by (try rw [w1]);all_goals exact i_eq)
 rcases xm ((↑l.length:Int) = 0) with d3 | d3
 ·have H:=H.1 d3
  exact path_re (G:=given kp53 [] []) 1000 [true] (vb false) (by kernel_rfl) (bc rfl (bc (beq_t (i2.2 d3)) b0)) q0 c0 H
 ·have H:=H.2 d3
  exact path_wp (G:=given kp53 [] []) 1000 [false] ⟨(atC (cd Try.f53) [1,1,0,1,0,0]),[(1,AV.ptr 0 0 0 0),(3,vi 0)],[⟨[ag [AV.vec g 3 (List.map Bk.a l),AV.vec h 2 (List.map Sb.a s)]],2,0,false,false⟩],_,[],_⟩ (by kernel_rfl) (bc rfl (bc (beq_f (fun h => d3 (i2.1 h))) b0)) q0 c0 (H)
noncomputable abbrev zTpB1 (l:List Bk) (i:Int):=bif Sp.backB (l.getD i.toNat default).3 then true else Sp.letB (l.getD i.toNat default).3 79
noncomputable abbrev zTpB2 (l:List Bk) (i:Int):=Sp.backB (l.getD i.toNat default).3 == false && true
theorem tvPra (g:Bool) (l:List Bk) (h:Bool) (s:List Sb) (i:Int)  (dq:AV) (H :
  ((i < (↑l.length:Int)) -> (Sp.few6 (l.getD i.toNat default).3.length) /\
   (0 <= i) /\
   (i.toNat < l.length) /\
   ((((Sp.backB (l.getD i.toNat default).3 = true) \/ (Sp.letB (l.getD i.toNat default).3 79 = true)) \/ (¬(Sp.endB (l.getD i.toNat default).3 = (i == IntKind.i64.wrap ((↑l.length:Int) - 1))))) -> vb false = dq) /\
   (¬(((Sp.backB (l.getD i.toNat default).3 = true) \/ (Sp.letB (l.getD i.toNat default).3 79 = true)) \/ (¬(Sp.endB (l.getD i.toNat default).3 = (i == IntKind.i64.wrap ((↑l.length:Int) - 1))))) -> (-9223372036854775808 <= i + 1 /\ i + 1 <= 9223372036854775807) /\
    tvPra_at (g) (l) (h) (s) (i + 1) (PureQ dq))) /\
  (¬(i < (↑l.length:Int)) -> tvPrb_at (g) (l) (h) (s) (0) (PureQ dq))) :
 tvPra_at g l h s i (PureQ dq):=by
 unfold tvPra_at
 have w1:(List.map Bk.a l).length = l.length:=List.length_map ..
 have i2:(decide (i < (↑(List.map Bk.a l).length:Int))) = true ↔ (i < (↑l.length:Int)):=(by (try rw [w1]);all_goals exact i_dec)
 rcases xm (i < (↑l.length:Int)) with d3 | d3
 ·have H:=H.1 d3
  obtain ⟨k4,H⟩:=H
  obtain ⟨k8,H⟩:=H
  have i9:(decide (i.toNat < (List.map Bk.a l).length)) = true ↔ (i.toNat < l.length):=(by (try rw [w1]);all_goals exact i_dec)
  obtain ⟨k10,H⟩:=H
  have i12:(!(zTpB2 l i) || decide (i.toNat < (List.map Bk.a l).length)) = true ↔ ((¬(Sp.backB (l.getD i.toNat default).3 = true)) -> (i.toNat < l.length)):=(by (try rw [w1]);all_goals exact (i_imp (i_at (i_bf (i_var _))) i_dec))
  have i14:(!((zTpB1 l i) == false && true) || decide (i.toNat < (List.map Bk.a l).length)) = true ↔ ((¬((Sp.backB (l.getD i.toNat default).3 = true) \/ (Sp.letB (l.getD i.toNat default).3 79 = true))) -> (i.toNat < l.length)):=(by (try rw [w1]);all_goals exact (i_imp (i_at (i_bf (i_bor (i_var _) (i_var _)))) i_dec))
  have i17:(bif bif Sp.backB (l.getD i.toNat default).3 then true else Sp.letB (l.getD i.toNat default).3 79 then true else !Sp.endB (l.getD i.toNat default).3 == (i == wi ((↑(List.map Bk.a l).length:Int) - 1))) = true ↔ (((Sp.backB (l.getD i.toNat default).3 = true) \/ (Sp.letB (l.getD i.toNat default).3 79 = true)) \/ (¬(Sp.endB (l.getD i.toNat default).3 = (i == wi ((↑l.length:Int) - 1))))):=(by (try rw [w1]);all_goals exact (i_bor (i_bor (i_var _) (i_var _)) (i_not i_eq)))
  refine path_wp (G:=given kp53 [(6,4,.elem (ag [vb (l.getD i.toNat default).1,AV.vec (l.getD i.toNat default).2 2 (List.map Wo.a (l.getD i.toNat default).3),AV.str (l.getD i.toNat default).4])),(6,5,.call (vb (Sp.backB (l.getD i.toNat default).3)) none),(6,11,.elem (ag [vb (l.getD i.toNat default).1,AV.vec (l.getD i.toNat default).2 2 (List.map Wo.a (l.getD i.toNat default).3),AV.str (l.getD i.toNat default).4])),(6,12,.call (vb (Sp.letB (l.getD i.toNat default).3 79)) none),(6,19,.elem (ag [vb (l.getD i.toNat default).1,AV.vec (l.getD i.toNat default).2 2 (List.map Wo.a (l.getD i.toNat default).3),AV.str (l.getD i.toNat default).4])),(6,20,.call (vb (Sp.endB (l.getD i.toNat default).3)) none)] []) 9 [true] ⟨(atC (cd Try.f53) [1,1,0,1,0,0,1,0,0,1]),[(1,AV.ptr 0 0 0 0),(3,vi i),(46,vb (bif bif Sp.backB (l.getD i.toNat default).3 then true else Sp.letB (l.getD i.toNat default).3 79 then true else !Sp.endB (l.getD i.toNat default).3 == (i == wi ((↑(List.map Bk.a l).length:Int) - 1))))],[⟨[ag [AV.vec g 3 (List.map Bk.a l),AV.vec h 2 (List.map Sb.a s)]],2,0,false,false⟩],[true,(decide (i < (↑(List.map Bk.a l).length:Int))) == true,true,decide (0 <= i),decide (i.toNat < (List.map Bk.a l).length),!(zTpB2 l i) || true,!(zTpB2 l i) || decide (0 <= i),!(zTpB2 l i) || decide (i.toNat < (List.map Bk.a l).length),!((zTpB1 l i) == false && true) || true,!((zTpB1 l i) == false && true) || decide (0 <= i),!((zTpB1 l i) == false && true) || decide (i.toNat < (List.map Bk.a l).length),!((zTpB1 l i) == false && true) || true],[((List.map Bk.a l).get?Internal i.toNat = some (ag [vb (l.getD i.toNat default).1,AV.vec (l.getD i.toNat default).2 2 (List.map Wo.a (l.getD i.toNat default).3),AV.str (l.getD i.toNat default).4])),((zTpB2 l i) = true -> (List.map Bk.a l).get?Internal i.toNat = some (ag [vb (l.getD i.toNat default).1,AV.vec (l.getD i.toNat default).2 2 (List.map Wo.a (l.getD i.toNat default).3),AV.str (l.getD i.toNat default).4])),(((zTpB1 l i) == false && true) = true -> (List.map Bk.a l).get?Internal i.toNat = some (ag [vb (l.getD i.toNat default).1,AV.vec (l.getD i.toNat default).2 2 (List.map Wo.a (l.getD i.toNat default).3),AV.str (l.getD i.toNat default).4]))],[⟨true,false,65,[ag [vb (l.getD i.toNat default).1,AV.vec (l.getD i.toNat default).2 2 (List.map Wo.a (l.getD i.toNat default).3),AV.str (l.getD i.toNat default).4]],[],vb (Sp.backB (l.getD i.toNat default).3),[]⟩,⟨Sp.backB (l.getD i.toNat default).3 == false && true && true,false,66,[ag [vb (l.getD i.toNat default).1,AV.vec (l.getD i.toNat default).2 2 (List.map Wo.a (l.getD i.toNat default).3),AV.str (l.getD i.toNat default).4],AV.int IntKind.u8 79],[],vb (Sp.letB (l.getD i.toNat default).3 79),[]⟩,⟨(zTpB1 l i) == false && true && true,false,64,[ag [vb (l.getD i.toNat default).1,AV.vec (l.getD i.toNat default).2 2 (List.map Wo.a (l.getD i.toNat default).3),AV.str (l.getD i.toNat default).4]],[],vb (Sp.endB (l.getD i.toNat default).3),[]⟩]⟩ (by kernel_rfl) (bc rfl (bc (beq_t (i2.2 d3)) (bc rfl (bc (i_dec.2 k8) (bc (i9.2 k10) (bc (Bool.or_true _) (bc ((i_imp (i_at (i_bf (i_var _))) i_dec).2 (fun _ => k8)) (bc (i12.2 (fun _ => k10)) (bc (Bool.or_true _) (bc ((i_imp (i_at (i_bf (i_bor (i_var _) (i_var _)))) i_dec).2 (fun _ => k8)) (bc (i14.2 (fun _ => k10)) (bc (Bool.or_true _) b0)))))))))))) (qc (el_map k10) (qc (fun h => el_map k10) (qc (fun h => el_map k10) q0))) (cc (fun _ => (@ev65 ((l.getD i.toNat default).1) ((l.getD i.toNat default).2) ((l.getD i.toNat default).3) ((l.getD i.toNat default).4) k4)) (cc (fun hc => ((@ev66 ((l.getD i.toNat default).1) ((l.getD i.toNat default).2) ((l.getD i.toNat default).3) ((l.getD i.toNat default).4) (79) k4):Ev M1 (Conf.pure 66 [ag [vb (l.getD i.toNat default).1,AV.vec (l.getD i.toNat default).2 2 (List.map Wo.a (l.getD i.toNat default).3),AV.str (l.getD i.toNat default).4],AV.int IntKind.u8 79]) (vb (Sp.letB (l.getD i.toNat default).3 79)) [])) (cc (fun hc => ((@ev64 ((l.getD i.toNat default).1) ((l.getD i.toNat default).2) ((l.getD i.toNat default).3) ((l.getD i.toNat default).4) k4):Ev M1 (Conf.pure 64 [ag [vb (l.getD i.toNat default).1,AV.vec (l.getD i.toNat default).2 2 (List.map Wo.a (l.getD i.toNat default).3),AV.str (l.getD i.toNat default).4]]) (vb (Sp.endB (l.getD i.toNat default).3)) [])) c0))) ?_
  rcases xm (((Sp.backB (l.getD i.toNat default).3 = true) \/ (Sp.letB (l.getD i.toNat default).3 79 = true)) \/ (¬(Sp.endB (l.getD i.toNat default).3 = (i == wi ((↑l.length:Int) - 1))))) with d18 | d18
  ·have H:=H.1 d18
   exact path_re (G:=given kp53 [] []) 1000 [true] (vb false) (by kernel_rfl) (bc (beq_t (i17.2 d18)) b0) q0 c0 H
  ·have H:=H.2 d18
   obtain ⟨k19,H⟩:=H
   have w20:wi (i + 1) = i + 1:=wI64 k19
   exact path_wp (G:=given kp53 [] []) 1000 [false] ⟨(atC (cd Try.f53) [1,1,0,1,0,0]),[(1,AV.ptr 0 0 0 0),(3,vi (wi (i + 1)))],[⟨[ag [AV.vec g 3 (List.map Bk.a l),AV.vec h 2 (List.map Sb.a s)]],2,0,false,false⟩],_,[],_⟩ (by kernel_rfl) (bc (beq_f (fun h => d18 (i17.1 h))) b0) q0 c0 (by (try rw [w20]);all_goals exact H)
 ·have H:=H.2 d3
  exact path_wp (G:=given kp53 [] []) 1000 [false] ⟨(atC (cd Try.f53) [1,1,1,0,1,0,0]),[(1,AV.ptr 0 0 0 0),(4,vi 0)],[⟨[ag [AV.vec g 3 (List.map Bk.a l),AV.vec h 2 (List.map Sb.a s)]],2,0,false,false⟩],_,[],_⟩ (by kernel_rfl) (bc rfl (bc (beq_f (fun h => d3 (i2.1 h))) b0)) q0 c0 (H)
noncomputable abbrev zTpB3 (s:List Sb) (i:Int):=bif decide ((s.getD i.toNat default).n < 1) then true else decide ((s.getD i.toNat default).n > 9999)
theorem tvPrb (g:Bool) (l:List Bk) (h:Bool) (s:List Sb) (i:Int)  (dq:AV) (H :
  ((i < (↑s.length:Int)) -> (0 <= i) /\
   (i.toNat < s.length) /\
   ((¬(((s.getD i.toNat default).n < 1) \/ ((s.getD i.toNat default).n > 9999))) -> (s.length <= 1000000)) /\
   (((((s.getD i.toNat default).n < 1) \/ ((s.getD i.toNat default).n > 9999)) \/ (Sp.fnd s (s.getD i.toNat default).n < i)) -> vb false = dq) /\
   (¬((((s.getD i.toNat default).n < 1) \/ ((s.getD i.toNat default).n > 9999)) \/ (Sp.fnd s (s.getD i.toNat default).n < i)) -> tvPrc_at (g) (l) (h) (s) (i) ((s.getD i.toNat default).n) ((s.getD i.toNat default).2) ((s.getD i.toNat default).3) (0) (PureQ dq))) /\
  (¬(i < (↑s.length:Int)) -> vb true = dq)) :
 tvPrb_at g l h s i (PureQ dq):=by
 unfold tvPrb_at
 have w1:(List.map Sb.a s).length = s.length:=List.length_map ..
 have i2:(decide (i < (↑(List.map Sb.a s).length:Int))) = true ↔ (i < (↑s.length:Int)):=(by (try rw [w1]);all_goals exact i_dec)
 rcases xm (i < (↑s.length:Int)) with d3 | d3
 ·have H:=H.1 d3
  obtain ⟨k5,H⟩:=H
  have i6:(decide (i.toNat < (List.map Sb.a s).length)) = true ↔ (i.toNat < s.length):=(by (try rw [w1]);all_goals exact i_dec)
  obtain ⟨k7,H⟩:=H
  obtain ⟨k9,H⟩:=H
  refine path_wp (G:=given kp53 [(11,4,.elem (ag [vi (s.getD i.toNat default).n,AV.vec (s.getD i.toNat default).2 3 (List.map Bk.a (s.getD i.toNat default).3)])),(12,12,.call (vi (Sp.fnd s (s.getD i.toNat default).n)) none)] []) 12 [true] ⟨(atC (cd Try.f53) [1,1,1,0,1,0,0,1,0,0,1,0,1]),[(1,AV.ptr 0 0 0 0),(4,vi i),(5,AV.ptr 1 0 0 0),(74,vb (bif bif decide ((s.getD i.toNat default).n < 1) then true else decide ((s.getD i.toNat default).n > 9999) then true else decide (Sp.fnd s (s.getD i.toNat default).n < i)))],[⟨[ag [AV.vec g 3 (List.map Bk.a l),AV.vec h 2 (List.map Sb.a s)]],2,0,false,false⟩,⟨[ag [vi (s.getD i.toNat default).n,AV.vec (s.getD i.toNat default).2 3 (List.map Bk.a (s.getD i.toNat default).3)]],2,0,false,false⟩],[true,(decide (i < (↑(List.map Sb.a s).length:Int))) == true,true,decide (0 <= i),decide (i.toNat < (List.map Sb.a s).length),true,true,!(decide ((s.getD i.toNat default).n < 1) == false && true) || true,!((zTpB3 s i) == false && true) || true,!((zTpB3 s i) == false && true) || true],[((List.map Sb.a s).get?Internal i.toNat = some (ag [vi (s.getD i.toNat default).n,AV.vec (s.getD i.toNat default).2 3 (List.map Bk.a (s.getD i.toNat default).3)]))],[⟨(zTpB3 s i) == false && true && true,false,19,[ag [AV.vec g 3 (List.map Bk.a l),AV.vec h 2 (List.map Sb.a s)],vi (s.getD i.toNat default).n],[],vi (Sp.fnd s (s.getD i.toNat default).n),[]⟩]⟩ (by kernel_rfl) (bc rfl (bc (beq_t (i2.2 d3)) (bc rfl (bc (i_dec.2 k5) (bc (i6.2 k7) (bc rfl (bc rfl (bc (Bool.or_true _) (bc (Bool.or_true _) (bc (Bool.or_true _) b0)))))))))) (qc (el_map k7) q0) (cc (fun hc => ((@ev19 (g) (h) (l) (s) ((s.getD i.toNat default).n) (k9 ((i_at (i_at (i_bf (i_bor i_dec i_dec)))).1 hc))):Ev M1 (Conf.pure 19 [ag [AV.vec g 3 (List.map Bk.a l),AV.vec h 2 (List.map Sb.a s)],vi (s.getD i.toNat default).n]) (vi (Sp.fnd s (s.getD i.toNat default).n)) [])) c0) ?_
  rcases xm ((((s.getD i.toNat default).n < 1) \/ ((s.getD i.toNat default).n > 9999)) \/ (Sp.fnd s (s.getD i.toNat default).n < i)) with d11 | d11
  ·have H:=H.1 d11
   exact path_re (G:=given kp53 [] []) 1000 [true] (vb false) (by kernel_rfl) (bc (beq_t ((i_bor (i_bor i_dec i_dec) i_dec).2 d11)) b0) q0 c0 H
  ·have H:=H.2 d11
   exact path_wp (G:=given kp53 [] []) 1000 [false] ⟨(atC (cd Try.f53) [1,1,1,0,1,0,0,1,0,0,1,1,1,0,0]),[(1,AV.ptr 0 0 0 0),(4,vi i),(5,AV.ptr 1 0 0 0),(6,vi 0)],[⟨[ag [AV.vec g 3 (List.map Bk.a l),AV.vec h 2 (List.map Sb.a s)]],2,0,false,false⟩,⟨[ag [vi (s.getD i.toNat default).n,AV.vec (s.getD i.toNat default).2 3 (List.map Bk.a (s.getD i.toNat default).3)]],2,0,false,false⟩],_,[],_⟩ (by kernel_rfl) (bc (beq_f (fun h => d11 ((i_bor (i_bor i_dec i_dec) i_dec).1 h))) b0) q0 c0 (H)
 ·have H:=H.2 d3
  exact path_re (G:=given kp53 [] []) 1000 [false] (vb true) (by kernel_rfl) (bc rfl (bc (beq_f (fun h => d3 (i2.1 h))) b0)) q0 c0 H
noncomputable abbrev zTpB4 (sb:List Bk) (k:Int):=bif Sp.backB (sb.getD k.toNat default).3 then true else Sp.letB (sb.getD k.toNat default).3 79
noncomputable abbrev zTpB5 (sb:List Bk) (k:Int):=bif bif Sp.backB (sb.getD k.toNat default).3 then true else Sp.letB (sb.getD k.toNat default).3 79 then true else Sp.endB (sb.getD k.toNat default).3
noncomputable abbrev zTpB6 (sb:List Bk) (k:Int):=Sp.backB (sb.getD k.toNat default).3 == false && true
theorem tvPrc (g:Bool) (l:List Bk) (h:Bool) (s:List Sb) (i:Int) (sn:Int) (sf:Bool) (sb:List Bk) (k:Int)  (dq:AV) (H :
  ((k < (↑sb.length:Int)) -> (Sp.few6 (sb.getD k.toNat default).3.length) /\
   (0 <= k) /\
   (k.toNat < sb.length) /\
   ((((Sp.backB (sb.getD k.toNat default).3 = true) \/ (Sp.letB (sb.getD k.toNat default).3 79 = true)) \/ (Sp.endB (sb.getD k.toNat default).3 = true)) -> vb false = dq) /\
   (¬(((Sp.backB (sb.getD k.toNat default).3 = true) \/ (Sp.letB (sb.getD k.toNat default).3 79 = true)) \/ (Sp.endB (sb.getD k.toNat default).3 = true)) -> (-9223372036854775808 <= k + 1 /\ k + 1 <= 9223372036854775807) /\
    tvPrc_at (g) (l) (h) (s) (i) (sn) (sf) (sb) (k + 1) (PureQ dq))) /\
  (¬(k < (↑sb.length:Int)) -> (-9223372036854775808 <= i + 1 /\ i + 1 <= 9223372036854775807) /\
   tvPrb_at (g) (l) (h) (s) (i + 1) (PureQ dq))) :
 tvPrc_at g l h s i sn sf sb k (PureQ dq):=by
 unfold tvPrc_at
 have w1:(List.map Bk.a sb).length = sb.length:=List.length_map ..
 have i2:(decide (k < (↑(List.map Bk.a sb).length:Int))) = true ↔ (k < (↑sb.length:Int)):=(by (try rw [w1]);all_goals exact i_dec)
 rcases xm (k < (↑sb.length:Int)) with d3 | d3
 ·have H:=H.1 d3
  obtain ⟨k4,H⟩:=H
  obtain ⟨k8,H⟩:=H
  have i9:(decide (k.toNat < (List.map Bk.a sb).length)) = true ↔ (k.toNat < sb.length):=(by (try rw [w1]);all_goals exact i_dec)
  obtain ⟨k10,H⟩:=H
  have i12:(!(zTpB6 sb k) || decide (k.toNat < (List.map Bk.a sb).length)) = true ↔ ((¬(Sp.backB (sb.getD k.toNat default).3 = true)) -> (k.toNat < sb.length)):=(by (try rw [w1]);all_goals exact (i_imp (i_at (i_bf (i_var _))) i_dec))
  have i14:(!((zTpB4 sb k) == false && true) || decide (k.toNat < (List.map Bk.a sb).length)) = true ↔ ((¬((Sp.backB (sb.getD k.toNat default).3 = true) \/ (Sp.letB (sb.getD k.toNat default).3 79 = true))) -> (k.toNat < sb.length)):=(by (try rw [w1]);all_goals exact (i_imp (i_at (i_bf (i_bor (i_var _) (i_var _)))) i_dec))
  refine path_wp (G:=given kp53 [(17,4,.elem (ag [vb (sb.getD k.toNat default).1,AV.vec (sb.getD k.toNat default).2 2 (List.map Wo.a (sb.getD k.toNat default).3),AV.str (sb.getD k.toNat default).4])),(17,5,.call (vb (Sp.backB (sb.getD k.toNat default).3)) none),(17,11,.elem (ag [vb (sb.getD k.toNat default).1,AV.vec (sb.getD k.toNat default).2 2 (List.map Wo.a (sb.getD k.toNat default).3),AV.str (sb.getD k.toNat default).4])),(17,12,.call (vb (Sp.letB (sb.getD k.toNat default).3 79)) none),(17,19,.elem (ag [vb (sb.getD k.toNat default).1,AV.vec (sb.getD k.toNat default).2 2 (List.map Wo.a (sb.getD k.toNat default).3),AV.str (sb.getD k.toNat default).4])),(17,20,.call (vb (Sp.endB (sb.getD k.toNat default).3)) none)] []) 9 [true] ⟨(atC (cd Try.f53) [1,1,1,0,1,0,0,1,0,0,1,1,1,0,0,1,0,0,1]),[(1,AV.ptr 0 0 0 0),(4,vi i),(5,AV.ptr 1 0 0 0),(6,vi k),(103,vb (zTpB5 sb k))],[⟨[ag [AV.vec g 3 (List.map Bk.a l),AV.vec h 2 (List.map Sb.a s)]],2,0,false,false⟩,⟨[ag [vi sn,AV.vec sf 3 (List.map Bk.a sb)]],2,0,false,false⟩],[true,(decide (k < (↑(List.map Bk.a sb).length:Int))) == true,true,decide (0 <= k),decide (k.toNat < (List.map Bk.a sb).length),!(zTpB6 sb k) || true,!(zTpB6 sb k) || decide (0 <= k),!(zTpB6 sb k) || decide (k.toNat < (List.map Bk.a sb).length),!((zTpB4 sb k) == false && true) || true,!((zTpB4 sb k) == false && true) || decide (0 <= k),!((zTpB4 sb k) == false && true) || decide (k.toNat < (List.map Bk.a sb).length)],[((List.map Bk.a sb).get?Internal k.toNat = some (ag [vb (sb.getD k.toNat default).1,AV.vec (sb.getD k.toNat default).2 2 (List.map Wo.a (sb.getD k.toNat default).3),AV.str (sb.getD k.toNat default).4])),((zTpB6 sb k) = true -> (List.map Bk.a sb).get?Internal k.toNat = some (ag [vb (sb.getD k.toNat default).1,AV.vec (sb.getD k.toNat default).2 2 (List.map Wo.a (sb.getD k.toNat default).3),AV.str (sb.getD k.toNat default).4])),(((zTpB4 sb k) == false && true) = true -> (List.map Bk.a sb).get?Internal k.toNat = some (ag [vb (sb.getD k.toNat default).1,AV.vec (sb.getD k.toNat default).2 2 (List.map Wo.a (sb.getD k.toNat default).3),AV.str (sb.getD k.toNat default).4]))],[⟨true,false,65,[ag [vb (sb.getD k.toNat default).1,AV.vec (sb.getD k.toNat default).2 2 (List.map Wo.a (sb.getD k.toNat default).3),AV.str (sb.getD k.toNat default).4]],[],vb (Sp.backB (sb.getD k.toNat default).3),[]⟩,⟨Sp.backB (sb.getD k.toNat default).3 == false && true && true,false,66,[ag [vb (sb.getD k.toNat default).1,AV.vec (sb.getD k.toNat default).2 2 (List.map Wo.a (sb.getD k.toNat default).3),AV.str (sb.getD k.toNat default).4],AV.int IntKind.u8 79],[],vb (Sp.letB (sb.getD k.toNat default).3 79),[]⟩,⟨(zTpB4 sb k) == false && true && true,false,64,[ag [vb (sb.getD k.toNat default).1,AV.vec (sb.getD k.toNat default).2 2 (List.map Wo.a (sb.getD k.toNat default).3),AV.str (sb.getD k.toNat default).4]],[],vb (Sp.endB (sb.getD k.toNat default).3),[]⟩]⟩ (by kernel_rfl) (bc rfl (bc (beq_t (i2.2 d3)) (bc rfl (bc (i_dec.2 k8) (bc (i9.2 k10) (bc (Bool.or_true _) (bc ((i_imp (i_at (i_bf (i_var _))) i_dec).2 (fun _ => k8)) (bc (i12.2 (fun _ => k10)) (bc (Bool.or_true _) (bc ((i_imp (i_at (i_bf (i_bor (i_var _) (i_var _)))) i_dec).2 (fun _ => k8)) (bc (i14.2 (fun _ => k10)) b0))))))))))) (qc (el_map k10) (qc (fun h => el_map k10) (qc (fun h => el_map k10) q0))) (cc (fun _ => (@ev65 ((sb.getD k.toNat default).1) ((sb.getD k.toNat default).2) ((sb.getD k.toNat default).3) ((sb.getD k.toNat default).4) k4)) (cc (fun hc => ((@ev66 ((sb.getD k.toNat default).1) ((sb.getD k.toNat default).2) ((sb.getD k.toNat default).3) ((sb.getD k.toNat default).4) (79) k4):Ev M1 (Conf.pure 66 [ag [vb (sb.getD k.toNat default).1,AV.vec (sb.getD k.toNat default).2 2 (List.map Wo.a (sb.getD k.toNat default).3),AV.str (sb.getD k.toNat default).4],AV.int IntKind.u8 79]) (vb (Sp.letB (sb.getD k.toNat default).3 79)) [])) (cc (fun hc => ((@ev64 ((sb.getD k.toNat default).1) ((sb.getD k.toNat default).2) ((sb.getD k.toNat default).3) ((sb.getD k.toNat default).4) k4):Ev M1 (Conf.pure 64 [ag [vb (sb.getD k.toNat default).1,AV.vec (sb.getD k.toNat default).2 2 (List.map Wo.a (sb.getD k.toNat default).3),AV.str (sb.getD k.toNat default).4]]) (vb (Sp.endB (sb.getD k.toNat default).3)) [])) c0))) ?_
  rcases xm (((Sp.backB (sb.getD k.toNat default).3 = true) \/ (Sp.letB (sb.getD k.toNat default).3 79 = true)) \/ (Sp.endB (sb.getD k.toNat default).3 = true)) with d18 | d18
  ·have H:=H.1 d18
   exact path_re (G:=given kp53 [] []) 1000 [true] (asm:=[(zTpB5 sb k) == true]) (vb false) (by kernel_rfl) (bc (beq_t ((i_bor (i_bor (i_var _) (i_var _)) (i_var _)).2 d18)) b0) q0 c0 H
  ·have H:=H.2 d18
   obtain ⟨k19,H⟩:=H
   have w20:wi (k + 1) = k + 1:=wI64 k19
   exact path_wp (G:=given kp53 [] []) 1000 [false] ⟨(atC (cd Try.f53) [1,1,1,0,1,0,0,1,0,0,1,1,1,0,0]),[(1,AV.ptr 0 0 0 0),(4,vi i),(5,AV.ptr 1 0 0 0),(6,vi (wi (k + 1)))],[⟨[ag [AV.vec g 3 (List.map Bk.a l),AV.vec h 2 (List.map Sb.a s)]],2,0,false,false⟩,⟨[ag [vi sn,AV.vec sf 3 (List.map Bk.a sb)]],2,0,false,false⟩],[(zTpB5 sb k) == false],[],_⟩ (by kernel_rfl) (bc (beq_f (fun h => d18 ((i_bor (i_bor (i_var _) (i_var _)) (i_var _)).1 h))) b0) q0 c0 (by (try rw [w20]);all_goals exact H)
 ·have H:=H.2 d3
  obtain ⟨k21,H⟩:=H
  have w22:wi (i + 1) = i + 1:=wI64 k21
  exact path_wp (G:=given kp53 [] []) 1000 [false] ⟨(atC (cd Try.f53) [1,1,1,0,1,0,0]),[(1,AV.ptr 0 0 0 0),(4,vi (wi (i + 1)))],[⟨[ag [AV.vec g 3 (List.map Bk.a l),AV.vec h 2 (List.map Sb.a s)]],2,0,false,false⟩,⟨[ag [vi sn,AV.vec sf 3 (List.map Bk.a sb)]],2,0,false,false⟩],_,[],_⟩ (by kernel_rfl) (bc rfl (bc (beq_f (fun h => d3 (i2.1 h))) b0)) q0 c0 (by (try rw [w22]);all_goals exact wp_narrow [0] (by kernel_rfl) H)
end Go.Av

namespace Go.Av
open Go.Proofs
namespace Sp
def mOK (l:List Bk) (j:Nat):Bool:=!(backB (l.getD j default).ws) && (!(letB (l.getD j default).ws 79) && (endB (l.getD j default).ws == decide (j = l.length - 1)))
def sOK (s:List Sb) (j:Nat):Bool:=decide (1 <= (s.getD j default).n /\ (s.getD j default).n <= 9999) && (!(anyP (isN (s.getD j default).n) (s.take j)) && !(sMk (s.getD j default)))
def prpR (l:List Bk) (s:List Sb):Bool:=decide (0 < l.length) && ((List.range' 0 l.length).all (mOK l) && (List.range' 0 s.length).all (sOK s))
def blks (l:List Bk) (s:List Sb):List Bk:=l ++ s.flatMap (·.bl)
def okU (a b:Int):Prop:=0 <= a /\ a <= 20001 /\ 0 <= b /\ b <= 20001
def sumC (a b:Int):Int:=if a + b < 20001 then a + b else 20001
end Sp
theorem fnd_lt {s:List Sb} {i:Nat} (hi:i < s.length):Sp.fnd s (s.getD i default).n < (i:Int) ↔ Sp.anyP (Sp.isN (s.getD i default).n) (s.take i) = true:=by
 have hii:Sp.isN (s.getD i default).n (s.getD i default) = true:=decide_eq_true rfl
 have h0:0 <= Sp.fnd s (s.getD i default).n:=by
  rcases idxF_ge (Sp.isN (s.getD i default).n) s 0 (by omega) with ⟨_,h2⟩ | ⟨h1,_⟩
  ·rw [any_at hi hii] at h2;cases h2
  ·exact h1
 constructor
 ·intro h
  have:=idxF_true (Sp.isN (s.getD i default).n) s 0 (by omega) (show ¬Sp.idxF (Sp.isN (s.getD i default).n) s 0 < 0 from by unfold Sp.fnd Sp.idxP at h0;omega)
  obtain ⟨k,hk⟩:=Int.eq_ofNat_of_zero_le h0
  have hk':Sp.idxF (Sp.isN (s.getD i default).n) s 0 = (k:Int):=hk
  rw [hk',show ((k:Int) - 0).toNat = k by omega] at this
  exact any_at (i:=k) (by simp;omega) (by rw [getD_take' (by omega)];exact this)
 ·intro h
  refine Classical.byContradiction fun y => ?_
  unfold Sp.anyP at h
  rw [any_no (fun j hj => ?_)] at h
  ·cases h
  ·simp at hj
   rw [getD_take' (by omega)]
   refine Bool.eq_false_iff.2 fun z => y ?_
   have:Sp.fnd s (s.getD i default).n <= (j:Int):=by
    refine Classical.byContradiction fun w => ?_
    rcases idxF_ge (Sp.isN (s.getD i default).n) s 0 (by omega) with ⟨_,h2⟩ | ⟨h1,h2,_⟩
    ·rw [any_at hi hii] at h2;cases h2
    ·have e:=idxF_first (Sp.isN (s.getD i default).n) s j 0 (by omega) (by omega) z
     unfold Sp.fnd Sp.idxP at w
     omega
   omega
where
 idxF_first {α:Type} [Inhabited α] (p:α -> Bool):∀ (r:List α) (k:Nat) (i:Int),0 <= i -> k < r.length -> p (r.getD k default) = true -> Sp.idxF p r i <= i + k
  | [],k,i,_,h,_ => by simp at h
  | b :: r,0,i,_,_,h => by
   have h0:p b = true:=h
   rw [Sp.idxF,if_pos h0];omega
  | b :: r,k + 1,i,hi,hl,hk => by
   rw [Sp.idxF]
   split
   ·omega
   ·have:=idxF_first p r k (i + 1) (by omega) (by simp at hl;omega) (by simpa using hk)
    omega
theorem all_range {n:Nat} {p:Nat -> Bool}:(List.range' 0 n).all p = true ↔ ∀ j,j < n -> p j = true:=by
 rw [List.all_eq_true]
 constructor
 ·intro h j hj;exact h j (by rw [List.mem_range'_1];omega)
 ·intro h j hj;rw [List.mem_range'_1] at hj;exact h j (by omega)
theorem mOK_iff {l:List Bk} (h0:0 < l.length):(List.range' 0 l.length).all (Sp.mOK l) = true ↔ Sp.ordM l = true:=by
 rw [all_range]
 obtain ⟨n,hn⟩:∃ n,l.length = n + 1:=⟨l.length - 1,by omega⟩
 constructor
 ·intro h
  have hl:=h n (by omega)
  unfold Sp.mOK at hl
  rw [hn,Nat.add_sub_cancel,decide_eq_true rfl] at hl
  simp only [Bool.and_eq_true,Bool.not_eq_true',beq_iff_eq] at hl
  refine ordM_ok hn hl.2.2 hl.1 hl.2.1 fun j hj => ?_
  have hj2:=h j (by omega)
  unfold Sp.mOK at hj2
  rw [hn,Nat.add_sub_cancel,decide_eq_false (show ¬j = n by omega)] at hj2
  simp only [Bool.and_eq_true,Bool.not_eq_true',beq_iff_eq] at hj2
  unfold Sp.pMk Sp.mkB
  rw [hj2.1,hj2.2.1,hj2.2.2];rfl
 ·intro h j hj
  unfold Sp.mOK
  rw [hn,Nat.add_sub_cancel]
  by_cases e:j = n
  ·subst e
   cases hb:Sp.backB (l.getD j default).ws with
   | true => rw [ordM_last hn (.inl hb)] at h;cases h
   | false =>
    cases ho:Sp.letB (l.getD j default).ws 79 with
    | true => rw [ordM_last hn (.inr ho)] at h;cases h
    | false =>
     unfold Sp.ordM Sp.ordB Sp.lastB at h
     rw [hn,Nat.add_sub_cancel] at h
     simp only [Bool.and_eq_true] at h
     rw [h.2.1,decide_eq_true rfl];rfl
  ·cases hm:Sp.pMk (l.getD j default) with
   | true => rw [ordM_in hn (by omega) hm] at h;cases h
   | false =>
    unfold Sp.pMk Sp.mkB at hm
    simp only [Bool.or_eq_false_iff] at hm
    rw [hm.1,hm.2.1,hm.2.2,decide_eq_false e];rfl
theorem sOK_iff {s:List Sb}:(List.range' 0 s.length).all (Sp.sOK s) = true ↔ Sp.numB s = true /\ Sp.repB s = false /\ Sp.anyP Sp.sMk s = false:=by
 rw [all_range]
 unfold Sp.sOK
 simp only [Bool.and_eq_true,Bool.not_eq_true',decide_eq_true_eq]
 constructor
 ·intro h
  refine ⟨?_,?_,any_no fun j hj => (h j hj).2.2⟩
  ·unfold Sp.numB
   rw [List.all_eq_true]
   intro x hx
   obtain ⟨j,hj,rfl⟩:=List.getElem_of_mem hx
   have:=(h j hj).1
   rw [List.getD_eq_getElem?_getD,List.getElem?_eq_getElem hj] at this
   exact decide_eq_true this
  ·unfold Sp.repB
   rw [List.any_eq_false]
   intro j hj
   rw [List.mem_range'_1] at hj
   rw [sIs_isN,(h j (by omega)).2.1];simp
 ·intro ⟨h1,h2,h3⟩ j hj
  unfold Sp.numB at h1
  unfold Sp.repB at h2
  unfold Sp.anyP at h3
  rw [List.all_eq_true] at h1
  rw [List.any_eq_false] at h2 h3
  refine ⟨of_decide_eq_true (h1 _ (getD_mem hj)),?_,Bool.eq_false_iff.2 (h3 _ (getD_mem hj))⟩
  have:=h2 j (by rw [List.mem_range'_1];omega)
  rw [sIs_isN] at this
  exact Bool.eq_false_iff.2 this
theorem prpR_eq (l:List Bk) (s:List Sb):Sp.prpR l s = Sp.prpB l s:=by
 unfold Sp.prpR Sp.prpB
 by_cases h0:0 < l.length
 ·rw [decide_eq_true h0,Bool.true_and,ordB_eq]
  apply Bool.eq_iff_iff.2
  simp only [Bool.and_eq_true,Bool.not_eq_true']
  rw [mOK_iff h0,sOK_iff]
  constructor
  ·exact fun ⟨a,b,c,d⟩ => ⟨b,⟨a,d⟩,c⟩
  ·exact fun ⟨b,⟨a,d⟩,c⟩ => ⟨a,b,c,d⟩
 ·rw [decide_eq_false h0,Bool.false_and]
  have:Sp.ordB l s = false:=by unfold Sp.ordB;rw [decide_eq_false h0,Bool.false_and]
  rw [this];simp
theorem tvPrb_loop {g h:Bool} {l:List Bk} {s:List Sb} {dq:AV} (hk:Sp.okSs s):∀ (c i:Nat),i + c = s.length -> AV.bool ((List.range' i c).all (Sp.sOK s)) = dq -> tvPrb_at g l h s i (PureQ dq):=by
 have hs:=hk.1
 intro c
 induction c with
 | zero =>
  intro i hi hq
  exact tvPrb _ _ _ _ _ _ ⟨fun h => by omega,fun _ => hq⟩
 | succ c ih =>
  intro i hi hq
  rw [List.range'_succ,List.all_cons] at hq
  refine tvPrb _ _ _ _ _ _ ⟨fun _ => ?_,fun h => by omega⟩
  rw [Int.toNat_natCast]
  have hb:=hk.2 _ (getD_mem (show i < s.length by omega))
  have hl:=hb.1
  refine ⟨by omega,by omega,fun _ => hs,fun k => ?_,fun k => ?_⟩
  ·rw [<- hq]
   congr 1
   unfold Sp.sOK
   rcases k with k | k
   ·rw [decide_eq_false (by omega),Bool.false_and,Bool.false_and]
   ·rw [(fnd_lt (by omega)).1 k,Bool.not_true,Bool.false_and,Bool.and_false,Bool.false_and]
  ·have k1:Sp.anyP (Sp.isN (s.getD i default).n) (s.take i) = false:=Bool.eq_false_iff.2 fun y => k (.inr ((fnd_lt (by omega)).2 y))
   have k2:¬((s.getD i default).n < 1 \/ (s.getD i default).n > 9999):=fun y => k (.inl y)
   have inner:∀ (c' j:Nat),j + c' = (s.getD i default).bl.length -> AV.bool (!(((s.getD i default).bl.drop j).any Sp.pMk) && (List.range' (i + 1) c).all (Sp.sOK s)) = dq -> tvPrc_at g l h s i (s.getD i default).n (s.getD i default).f (s.getD i default).bl j (PureQ dq):=by
    intro c'
    induction c' with
    | zero =>
     intro j hj hq
     rw [List.drop_eq_nil_of_le (by omega)] at hq
     exact tvPrc _ _ _ _ _ _ _ _ _ _ ⟨fun h => by omega,fun _ => ⟨by omega,ih (i + 1) (by omega) hq⟩⟩
    | succ c' ih' =>
     intro j hj hq
     rw [drop_getD (show j < (s.getD i default).bl.length by omega),List.any_cons] at hq
     refine tvPrc _ _ _ _ _ _ _ _ _ _ ⟨fun _ => ?_,fun h => by omega⟩
     rw [Int.toNat_natCast]
     refine ⟨(hb.2 _ (getD_mem (show j < (s.getD i default).bl.length by omega))).1,by omega,by omega,fun m => ?_,fun m => ⟨by omega,ih' (j + 1) (by omega) ?_⟩⟩
     ·rw [<- hq]
      congr 1
      have:Sp.pMk ((s.getD i default).bl.getD j default) = true:=by
       unfold Sp.pMk Sp.mkB
       rcases m with (m | m) | m <;> rw [m] <;> simp
      rw [this];rfl
     ·have:Sp.pMk ((s.getD i default).bl.getD j default) = false:=by
       unfold Sp.pMk Sp.mkB
       rw [Bool.eq_false_iff.2 fun y => m (.inr y),Bool.eq_false_iff.2 fun y => m (.inl (.inl y)),Bool.eq_false_iff.2 fun y => m (.inl (.inr y))];rfl
      rw [this,Bool.false_or] at hq
      exact hq
   refine inner (s.getD i default).bl.length 0 (by omega) ?_
   rw [<- hq,List.drop_zero]
   congr 1
   unfold Sp.sOK Sp.sMk Sp.anyP
   unfold Sp.anyP at k1
   rw [k1,decide_eq_true (show 1 <= (s.getD i default).n /\ (s.getD i default).n <= 9999 by omega),Bool.true_and,Bool.not_false,Bool.true_and]
theorem tvPra_loop {g h:Bool} {l:List Bk} {s:List Sb} {dq:AV} (hl:Sp.okBs l) (hk:Sp.okSs s):∀ (c i:Nat),i + c = l.length -> AV.bool ((List.range' i c).all (Sp.mOK l) && (List.range' 0 s.length).all (Sp.sOK s)) = dq -> tvPra_at g l h s i (PureQ dq):=by
 have hn:=hl.1
 intro c
 induction c with
 | zero =>
  intro i hi hq
  exact tvPra _ _ _ _ _ _ ⟨fun h => by omega,fun _ => tvPrb_loop hk s.length 0 (by omega) hq⟩
 | succ c ih =>
  intro i hi hq
  rw [List.range'_succ,List.all_cons] at hq
  refine tvPra _ _ _ _ _ _ ⟨fun _ => ?_,fun h => by omega⟩
  rw [Int.toNat_natCast]
  have hw:IntKind.i64.wrap ((l.length:Int) - 1) = (l.length:Int) - 1:=wI64 (by omega)
  have hb:((i:Int) == IntKind.i64.wrap ((l.length:Int) - 1)) = decide (i = l.length - 1):=by
   rw [hw,show ((i:Int) == (l.length:Int) - 1) = decide ((i:Int) = (l.length:Int) - 1) from rfl]
   exact decide_eq_decide.2 ⟨fun h => by omega,fun h => by omega⟩
  rw [hb]
  refine ⟨(hl.2 _ (getD_mem (show i < l.length by omega))).1,by omega,by omega,fun k => ?_,fun k => ⟨by omega,ih (i + 1) (by omega) ?_⟩⟩
  ·rw [<- hq]
   congr 1
   unfold Sp.mOK
   rcases k with (k | k) | k
   ·rw [k];rfl
   ·rw [k,Bool.not_true,Bool.false_and,Bool.and_false];rfl
   ·rw [show (Sp.endB (l.getD i default).ws == decide (i = l.length - 1)) = false from by rw [beq_eq_false_iff_ne];exact k,Bool.and_false,Bool.and_false];rfl
  ·rw [<- hq]
   congr 1
   unfold Sp.mOK
   have k3:Sp.endB (l.getD i default).ws = decide (i = l.length - 1):=Classical.byContradiction fun y => k (.inr y)
   rw [Bool.eq_false_iff.2 fun y => k (.inl (.inl y)),Bool.eq_false_iff.2 fun y => k (.inl (.inr y)),k3,beq_self_eq_true];rfl
theorem ev53 (g h:Bool) (l:List Bk) (s:List Sb) (hk:Sp.okBs l /\ Sp.okSs s):Ev M1 (.pure 53 [pgA g h l s]) (.bool (Sp.prpB l s)) []:=by
 rw [<- prpR_eq]
 refine call53 (tvPr _ _ _ _ _ ⟨fun k => ?_,fun k => ?_⟩)
 ·unfold Sp.prpR;rw [decide_eq_false (by omega),Bool.false_and]
 ·refine tvPra_loop hk.1 hk.2 l.length 0 (by omega) ?_
  unfold Sp.prpR;rw [decide_eq_true (by omega),Bool.true_and]
theorem ev76 (a b:Int) (h:Sp.okU a b):Ev M1 (.pure 76 [.int .i64 a,.int .i64 b]) (.int .i64 (Sp.sumC a b)) []:=
 call76 (tvSu a b _ ⟨by unfold Sp.okU at h;omega,rfl⟩)
theorem tvBla_loop {g h:Bool} {l:List Bk} {s:List Sb} {dq:AV} (hs:s.length <= 1000) (hk:∀ x ∈ s,x.bl.length <= 1000000):∀ (c i v:Nat) (o:List Bk),i + c = s.length -> o.length <= 1000000 * (i + 1) -> bsA false (o ++ (s.drop i).flatMap (·.bl)) = dq -> tvBla_at g l h s i o v (PureQ dq):=by
 intro c
 induction c with
 | zero =>
  intro i v o hi ho hq
  rw [List.drop_eq_nil_of_le (by omega),List.flatMap_nil,List.append_nil] at hq
  exact tvBla _ _ _ _ _ _ _ _ ⟨fun h => by omega,fun _ => by rw [<- hq];exact .refl _⟩
 | succ c ih =>
  intro i v o hi ho hq
  have hx:=hk _ (getD_mem (show i < s.length by omega))
  rw [drop_getD (show i < s.length by omega),List.flatMap_cons,<- List.append_assoc] at hq
  refine tvBla _ _ _ _ _ _ _ _ ⟨fun _ => ?_,fun h => by omega⟩
  rw [Int.toNat_natCast]
  exact ⟨by omega,by omega,by omega,by omega,ih (i + 1) (v + 1) _ (by omega) (by rw [List.length_append];omega) hq⟩
theorem ev54 (g h:Bool) (l:List Bk) (s:List Sb) (hk:0 < l.length /\ l.length <= 1000000 /\ s.length <= 1000 /\ ∀ x ∈ s,x.bl.length <= 1000000):Ev M1 (.pure 54 [pgA g h l s]) (bsA false (Sp.blks l s)) []:=by
 obtain ⟨h0,hl,hs,hk⟩:=hk
 refine call54 ?_
 match l,h0,hl with
 | y :: l,_,hl =>
  refine tvBl _ _ _ _ _ _ ⟨by simp at hl;omega,?_⟩
  exact tvBla_loop (l:=y :: l) hs hk s.length 0 0 (y :: l) (by omega) (by omega) (by rw [List.drop_zero];rfl)
end Go.Av

namespace Go.Av
open Go.Proofs
set_option maxRecDepth 100000
def fi55:Fi:=⟨65,[.tmp 8,.tmp 9,.tmp 10]⟩
def kp55:List (Nat × List Nat):=[(0,[1,2,3,4]),(1,[1,2,3,4,11,12]),(2,[1,2,3,4,11,12,13]),(3,[1,2,3,4,11,12,13,22]),(4,[1,2,3,4,11,12,13]),(5,[1,2,3,4,11,12,13,14,15,16]),(6,[1,2,3,4,11,12,13,14,15,36]),(7,[1,2,3,4,11,12,13]),(8,[1,2,3,4,11,12,13,15,18]),(9,[1,2,3,4,11,12,13,15,18,46]),(10,[8,9,10]),(11,[1,2,3,4,11,12,13,18]),(12,[1,2,3,4,11,12,13]),(13,[8,9,10])]
def tvMe_at (g:Bool) (l:List Bk) (h:Bool) (s:List Sb) (q:Bool) (b:List Bk) (fz fd:Bool) (z d:List Int) (Q:AV -> Heap -> Prop):Prop:=Wp M1 (.run fi55 (atC (cd Try.f55) []) [(0,.agg [.vec g 3 (l.map Bk.a),.vec h 2 (s.map Sb.a)]),(1,.vec q 3 (b.map Bk.a)),(2,.vec fz 1 (z.map (.int .i64))),(3,.vec fd 1 (d.map (.int .i64)))] []) Q
def tvMea_at (g:Bool) (l:List Bk) (h:Bool) (s:List Sb) (q:Bool) (b:List Bk) (fz fd:Bool) (z d:List Int) (a e i:Int) (Q:AV -> Heap -> Prop):Prop:=Wp M1 (.run fi55 (atC (cd Try.f55) [1,1,0,1,0,0]) [(1,.vec q 3 (b.map Bk.a)),(2,.vec fz 1 (z.map (.int .i64))),(3,.vec fd 1 (d.map (.int .i64))),(4,.ptr 0 0 0 0),(11,.int .i64 a),(12,.int .i64 e),(13,.int .i64 i)] [⟨[.agg [.vec g 3 (l.map Bk.a),.vec h 2 (s.map Sb.a)]],2,0,false,false⟩]) Q
theorem call55 {args:List AV} {d:AV} (h:wc M1 fi55 Try.f55 args d):Ev M1 (.pure 55 args) d []:=pcl _ _ (by kernel_rfl) h
theorem tvMe (g:Bool) (l:List Bk) (h:Bool) (s:List Sb) (q:Bool) (b:List Bk) (fz fd:Bool) (z d:List Int)  (dq:AV) (H :
  tvMea_at (g) (l) (h) (s) (q) (b) (fz) (fd) (z) (d) (0) (0) (0) (PureQ dq)) :
 tvMe_at g l h s q b fz fd z d (PureQ dq):=by
 unfold tvMe_at
 exact path_wp (G:=given kp55 [] []) 1000 [] ⟨(atC (cd Try.f55) [1,1,0,1,0,0]),[(1,AV.vec q 3 (List.map Bk.a b)),(2,AV.vec fz 1 (List.map (vi) z)),(3,AV.vec fd 1 (List.map (vi) d)),(4,AV.ptr 0 0 0 0),(11,vi 0),(12,vi 0),(13,vi 0)],[⟨[ag [AV.vec g 3 (List.map Bk.a l),AV.vec h 2 (List.map Sb.a s)]],2,0,false,false⟩],_,[],_⟩ (by kernel_rfl) b0 q0 c0 (H)
noncomputable abbrev zTpC1 (a:Int) (z:List Int) (s:List Sb) (b:List Bk) (i:Int):=Sp.sumC a (if z.getD (Sp.fnd s (Sp.cN (b.getD i.toNat default).3)).toNat default * Sp.cT (b.getD i.toNat default).3 < 20001 then z.getD (Sp.fnd s (Sp.cN (b.getD i.toNat default).3)).toNat default * Sp.cT (b.getD i.toNat default).3 else 20001)
noncomputable abbrev zTpC2 (z:List Int) (s:List Sb) (b:List Bk) (i:Int):=vi (z.getD (Sp.fnd s (Sp.cN (b.getD i.toNat default).3)).toNat default)
theorem tvMea (g:Bool) (l:List Bk) (h:Bool) (s:List Sb) (q:Bool) (b:List Bk) (fz fd:Bool) (z d:List Int) (a e i:Int)  (dq:AV) (H :
  ((i < (↑b.length:Int)) -> (Sp.okW (b.getD i.toNat default).3) /\
   (0 <= i) /\
   (i.toNat < b.length) /\
   ((¬(Sp.cIs (b.getD i.toNat default).3 = true)) -> (Sp.okU a 1) /\
    (-9223372036854775808 <= i + 1 /\ i + 1 <= 9223372036854775807) /\
    tvMea_at (g) (l) (h) (s) (q) (b) (fz) (fd) (z) (d) (Sp.sumC a 1) (e) (i + 1) (PureQ dq)) /\
   (¬(¬(Sp.cIs (b.getD i.toNat default).3 = true)) -> (s.length <= 1000000) /\
    (0 <= Sp.fnd s (Sp.cN (b.getD i.toNat default).3)) /\
    ((Sp.fnd s (Sp.cN (b.getD i.toNat default).3)).toNat < z.length) /\
    ((z.getD (Sp.fnd s (Sp.cN (b.getD i.toNat default).3)).toNat default < 0) -> tu [vi 0,vi 0,vb false] = dq) /\
    (¬(z.getD (Sp.fnd s (Sp.cN (b.getD i.toNat default).3)).toNat default < 0) -> (-9223372036854775808 <= z.getD (Sp.fnd s (Sp.cN (b.getD i.toNat default).3)).toNat default * Sp.cT (b.getD i.toNat default).3 /\ z.getD (Sp.fnd s (Sp.cN (b.getD i.toNat default).3)).toNat default * Sp.cT (b.getD i.toNat default).3 <= 9223372036854775807) /\
     (Sp.okU a (if z.getD (Sp.fnd s (Sp.cN (b.getD i.toNat default).3)).toNat default * Sp.cT (b.getD i.toNat default).3 < 20001 then z.getD (Sp.fnd s (Sp.cN (b.getD i.toNat default).3)).toNat default * Sp.cT (b.getD i.toNat default).3 else 20001)) /\
     ((Sp.fnd s (Sp.cN (b.getD i.toNat default).3)).toNat < d.length) /\
     (-9223372036854775808 <= d.getD (Sp.fnd s (Sp.cN (b.getD i.toNat default).3)).toNat default + 1 /\ d.getD (Sp.fnd s (Sp.cN (b.getD i.toNat default).3)).toNat default + 1 <= 9223372036854775807) /\
     (-9223372036854775808 <= i + 1 /\ i + 1 <= 9223372036854775807) /\
     tvMea_at (g) (l) (h) (s) (q) (b) (fz) (fd) (z) (d) (Sp.sumC a (if z.getD (Sp.fnd s (Sp.cN (b.getD i.toNat default).3)).toNat default * Sp.cT (b.getD i.toNat default).3 < 20001 then z.getD (Sp.fnd s (Sp.cN (b.getD i.toNat default).3)).toNat default * Sp.cT (b.getD i.toNat default).3 else 20001)) (if d.getD (Sp.fnd s (Sp.cN (b.getD i.toNat default).3)).toNat default + 1 > e then d.getD (Sp.fnd s (Sp.cN (b.getD i.toNat default).3)).toNat default + 1 else e) (i + 1) (PureQ dq)))) /\
  (¬(i < (↑b.length:Int)) -> tu [vi a,vi e,vb true] = dq)) :
 tvMea_at g l h s q b fz fd z d a e i (PureQ dq):=by
 unfold tvMea_at
 have w1:(List.map Bk.a b).length = b.length:=List.length_map ..
 have i2:(decide (i < (↑(List.map Bk.a b).length:Int))) = true ↔ (i < (↑b.length:Int)):=(by (try rw [w1]);all_goals exact i_dec)
 rcases xm (i < (↑b.length:Int)) with d3 | d3
 ·have H:=H.1 d3
  obtain ⟨k4,H⟩:=H
  obtain ⟨k6,H⟩:=H
  have i7:(decide (i.toNat < (List.map Bk.a b).length)) = true ↔ (i.toNat < b.length):=(by (try rw [w1]);all_goals exact i_dec)
  obtain ⟨k8,H⟩:=H
  refine path_wp (G:=given kp55 [(5,3,.elem (ag [vb (b.getD i.toNat default).1,AV.vec (b.getD i.toNat default).2 2 (List.map Wo.a (b.getD i.toNat default).3),AV.str (b.getD i.toNat default).4])),(5,4,.call (tu [vi (Sp.cN (b.getD i.toNat default).3),vi (Sp.cT (b.getD i.toNat default).3),vb (Sp.cIs (b.getD i.toNat default).3),vi (Sp.cE (b.getD i.toNat default).3)]) none)] []) 12 [true] ⟨(atC (cd Try.f55) [1,1,0,1,0,0,1,0,0,1,0,1]),[(1,AV.vec q 3 (List.map Bk.a b)),(2,AV.vec fz 1 (List.map (vi) z)),(3,AV.vec fd 1 (List.map (vi) d)),(4,AV.ptr 0 0 0 0),(11,vi a),(12,vi e),(13,vi i),(14,vi (Sp.cN (b.getD i.toNat default).3)),(15,vi (Sp.cT (b.getD i.toNat default).3)),(36,vb !Sp.cIs (b.getD i.toNat default).3)],[⟨[ag [AV.vec g 3 (List.map Bk.a l),AV.vec h 2 (List.map Sb.a s)]],2,0,false,false⟩],_,[((List.map Bk.a b).get?Internal i.toNat = some (ag [vb (b.getD i.toNat default).1,AV.vec (b.getD i.toNat default).2 2 (List.map Wo.a (b.getD i.toNat default).3),AV.str (b.getD i.toNat default).4]))],_⟩ (by kernel_rfl) (bc (beq_t (i2.2 d3)) (bc (i_dec.2 k6) (bc (i7.2 k8) b0))) (qc (el_map k8) q0) (ce (@ev14 ((b.getD i.toNat default).1) ((b.getD i.toNat default).2) ((b.getD i.toNat default).3) ((b.getD i.toNat default).4) k4) c0) ?_
  rcases xm (¬(Sp.cIs (b.getD i.toNat default).3 = true)) with d10 | d10
  ·have H:=H.1 d10
   obtain ⟨k11,H⟩:=H
   obtain ⟨k12,H⟩:=H
   have w13:wi (i + 1) = i + 1:=wI64 k12
   exact path_wp (G:=given kp55 [(7,1,.call (vi (Sp.sumC a 1)) none)] []) 1000 [true] ⟨(atC (cd Try.f55) [1,1,0,1,0,0]),[(1,AV.vec q 3 (List.map Bk.a b)),(2,AV.vec fz 1 (List.map (vi) z)),(3,AV.vec fd 1 (List.map (vi) d)),(4,AV.ptr 0 0 0 0),(11,vi (Sp.sumC a 1)),(12,vi e),(13,vi (wi (i + 1)))],[⟨[ag [AV.vec g 3 (List.map Bk.a l),AV.vec h 2 (List.map Sb.a s)]],2,0,false,false⟩],[(!Sp.cIs (b.getD i.toNat default).3) == true],[],_⟩ (by kernel_rfl) (bc (beq_t ((i_not (i_var _)).2 d10)) b0) q0 (ce (@ev76 (a) (1) k11) c0) (by (try rw [w13]);all_goals exact H)
  ·have H:=H.2 d10
   obtain ⟨k14,H⟩:=H
   obtain ⟨k16,H⟩:=H
   have w17:(List.map (vi) z).length = z.length:=List.length_map ..
   have i18:(decide ((Sp.fnd s (Sp.cN (b.getD i.toNat default).3)).toNat < (List.map (vi) z).length)) = true ↔ ((Sp.fnd s (Sp.cN (b.getD i.toNat default).3)).toNat < z.length):=(by (try rw [w17]);all_goals exact i_dec)
   obtain ⟨k19,H⟩:=H
   refine path_wp (G:=given kp55 [(8,2,.call (vi (Sp.fnd s (Sp.cN (b.getD i.toNat default).3))) none),(9,3,.elem (zTpC2 z s b i))] []) 7 [false] ⟨(atC (cd Try.f55) [1,1,0,1,0,0,1,0,0,1,1,1,0,1]),[(1,AV.vec q 3 (List.map Bk.a b)),(2,AV.vec fz 1 (List.map (vi) z)),(3,AV.vec fd 1 (List.map (vi) d)),(4,AV.ptr 0 0 0 0),(11,vi a),(12,vi e),(13,vi i),(15,vi (Sp.cT (b.getD i.toNat default).3)),(18,vi (Sp.fnd s (Sp.cN (b.getD i.toNat default).3))),(46,vb (decide (z.getD (Sp.fnd s (Sp.cN (b.getD i.toNat default).3)).toNat default < 0)))],[⟨[ag [AV.vec g 3 (List.map Bk.a l),AV.vec h 2 (List.map Sb.a s)]],2,0,false,false⟩],[(!Sp.cIs (b.getD i.toNat default).3) == false,true,decide (0 <= Sp.fnd s (Sp.cN (b.getD i.toNat default).3)),decide ((Sp.fnd s (Sp.cN (b.getD i.toNat default).3)).toNat < (List.map (vi) z).length)],[((List.map (vi) z).get?Internal (Sp.fnd s (Sp.cN (b.getD i.toNat default).3)).toNat = some (zTpC2 z s b i))],_⟩ (by kernel_rfl) (bc (beq_f (fun h => d10 ((i_not (i_var _)).1 h))) (bc rfl (bc (i_dec.2 k16) (bc (i18.2 k19) b0)))) (qc (el_map k19) q0) (ce (@ev19 (g) (h) (l) (s) (Sp.cN (b.getD i.toNat default).3) k14) c0) ?_
   rcases xm (z.getD (Sp.fnd s (Sp.cN (b.getD i.toNat default).3)).toNat default < 0) with d21 | d21
   ·have H:=H.1 d21
    exact path_re (G:=given kp55 [] []) 1000 [true] (tu [vi 0,vi 0,vb false]) (by kernel_rfl) (bc (beq_t (i_dec.2 d21)) b0) q0 c0 H
   ·have H:=H.2 d21
    obtain ⟨k22,H⟩:=H
    have w23:wi (z.getD (Sp.fnd s (Sp.cN (b.getD i.toNat default).3)).toNat default * Sp.cT (b.getD i.toNat default).3) = z.getD (Sp.fnd s (Sp.cN (b.getD i.toNat default).3)).toNat default * Sp.cT (b.getD i.toNat default).3:=wI64 k22
    obtain ⟨k24,H⟩:=H
    have i26:(decide ((Sp.fnd s (Sp.cN (b.getD i.toNat default).3)).toNat < (List.map (vi) z).length)) = true ↔ ((Sp.fnd s (Sp.cN (b.getD i.toNat default).3)).toNat < z.length):=(by (try rw [w17]);all_goals exact i_dec)
    have w28:(List.map (vi) d).length = d.length:=List.length_map ..
    have i29:(decide ((Sp.fnd s (Sp.cN (b.getD i.toNat default).3)).toNat < (List.map (vi) d).length)) = true ↔ ((Sp.fnd s (Sp.cN (b.getD i.toNat default).3)).toNat < d.length):=(by (try rw [w28]);all_goals exact i_dec)
    obtain ⟨k30,H⟩:=H
    obtain ⟨k31,H⟩:=H
    have w32:wi (d.getD (Sp.fnd s (Sp.cN (b.getD i.toNat default).3)).toNat default + 1) = d.getD (Sp.fnd s (Sp.cN (b.getD i.toNat default).3)).toNat default + 1:=wI64 k31
    obtain ⟨k33,H⟩:=H
    have w34:wi (i + 1) = i + 1:=wI64 k33
    exact path_wp (G:=given kp55 [(11,4,.elem (zTpC2 z s b i)),(11,8,.call (vi (zTpC1 a z s b i)) none),(12,4,.elem (vi (d.getD (Sp.fnd s (Sp.cN (b.getD i.toNat default).3)).toNat default)))] []) 1000 [false] ⟨(atC (cd Try.f55) [1,1,0,1,0,0]),[(1,AV.vec q 3 (List.map Bk.a b)),(2,AV.vec fz 1 (List.map (vi) z)),(3,AV.vec fd 1 (List.map (vi) d)),(4,AV.ptr 0 0 0 0),(11,vi (zTpC1 a z s b i)),(12,vi (if wi (d.getD (Sp.fnd s (Sp.cN (b.getD i.toNat default).3)).toNat default + 1) > e then wi (d.getD (Sp.fnd s (Sp.cN (b.getD i.toNat default).3)).toNat default + 1) else e)),(13,vi (wi (i + 1)))],[⟨[ag [AV.vec g 3 (List.map Bk.a l),AV.vec h 2 (List.map Sb.a s)]],2,0,false,false⟩],_,[((List.map (vi) z).get?Internal (Sp.fnd s (Sp.cN (b.getD i.toNat default).3)).toNat = some (zTpC2 z s b i)),((List.map (vi) d).get?Internal (Sp.fnd s (Sp.cN (b.getD i.toNat default).3)).toNat = some (vi (d.getD (Sp.fnd s (Sp.cN (b.getD i.toNat default).3)).toNat default)))],[pc 76 [vi a,vi (if wi (z.getD (Sp.fnd s (Sp.cN (b.getD i.toNat default).3)).toNat default * Sp.cT (b.getD i.toNat default).3) < 20001 then wi (z.getD (Sp.fnd s (Sp.cN (b.getD i.toNat default).3)).toNat default * Sp.cT (b.getD i.toNat default).3) else 20001)] (vi (zTpC1 a z s b i))]⟩ (by kernel_rfl) (bc (beq_f (fun h => d21 (i_dec.1 h))) (bc (i_dec.2 k16) (bc (i26.2 k19) (bc (i_dec.2 k16) (bc (i29.2 k30) b0))))) (qc (el_map k19) (qc (el_map k30) q0)) (ce (by (try rw [w23]);all_goals exact (@ev76 (a) (if z.getD (Sp.fnd s (Sp.cN (b.getD i.toNat default).3)).toNat default * Sp.cT (b.getD i.toNat default).3 < 20001 then z.getD (Sp.fnd s (Sp.cN (b.getD i.toNat default).3)).toNat default * Sp.cT (b.getD i.toNat default).3 else 20001) k24)) c0) (by (try rw [w32]);(try rw [w34]);all_goals exact H)
 ·have H:=H.2 d3
  exact path_re (G:=given kp55 [] []) 1000 [false] (tu [vi a,vi e,vb true]) (by kernel_rfl) (bc (beq_f (fun h => d3 (i2.1 h))) b0) q0 c0 H
end Go.Av

namespace Go.Av
open Go.Proofs
namespace Sp
def cap (x:Int):Int:=if x < 20001 then x else 20001
def mx (a b:Int):Int:=if a > b then a else b
def at' (s:List Sb) (x:Bk):Nat:=(fnd s (cN x.ws)).toNat
def meaR (s:List Sb) (z d:List Int):List Bk -> Int -> Int -> Int × Int × Bool
 | [],a,e => (a,e,true)
 | x :: r,a,e =>
  if cIs x.ws = true then
   (if z.getD (at' s x) default < 0 then (0,0,false) else meaR s z d r (sumC a (cap (z.getD (at' s x) default * cT x.ws))) (mx (d.getD (at' s x) default + 1) e))
  else meaR s z d r (sumC a 1) e
def found (s:List Sb) (b:List Bk):Prop:=∀ x ∈ b,cIs x.ws = true -> 0 <= fnd s (cN x.ws)
def okZ (z d:List Int) (n:Nat):Prop:=z.length = n /\ d.length = n /\ (∀ x ∈ z,-1 <= x /\ x <= 20001) /\ ∀ x ∈ d,0 <= x /\ x <= 1000000
def okM (s:List Sb) (b:List Bk) (z d:List Int):Prop:=s.length <= 1000000 /\ okBs b /\ found s b /\ okZ z d s.length
end Sp
theorem lastD_mem:∀ (l:List Int) (d:Int),Sp.lastD l d = d \/ Sp.lastD l d ∈ l:=by
 intro l
 unfold Sp.lastD
 induction l with
 | nil => intro d;exact .inl rfl
 | cons x l ih =>
  intro d
  rw [List.foldl_cons]
  rcases ih x with h | h
  ·right;rw [h];exact List.mem_cons_self
  ·right;exact List.mem_cons_of_mem _ h
theorem whB_rng {x:Int} (h:Sp.whB x = true):1 <= Sp.whV x /\ Sp.whV x <= 9999:=by
 unfold Sp.whB at h
 exact (of_decide_eq_true h).2
theorem codes_mem {ws:List Wo} {c x:Int} (h:x ∈ Sp.codes ws c):∃ w ∈ ws,w.l = c /\ w.v = x:=by
 unfold Sp.codes at h
 obtain ⟨w,h1,h2⟩:=List.mem_map.1 h
 obtain ⟨h3,h4⟩:=List.mem_filter.1 h1
 exact ⟨w,h3,of_decide_eq_true h4,h2⟩
theorem cIs_at {ws:List Wo} (h:Sp.cIs ws = true):(1 <= Sp.cT ws /\ Sp.cT ws <= 9999) /\ (1 <= Sp.cN ws /\ Sp.cN ws <= 9999):=by
 unfold Sp.cT Sp.cN
 rw [if_pos h,if_pos h]
 unfold Sp.cIs Sp.okC at h
 simp only [Bool.and_eq_true] at h
 obtain ⟨_,h1,h2⟩:=h
 have h2:=of_decide_eq_true h2
 rw [List.all_eq_true] at h1
 have key:∀ (c d:Int),(c = 80 \/ c = 76) -> Sp.whB d = true \/ 0 < (Sp.codes ws c).length -> 1 <= Sp.whV (Sp.lastD (Sp.codes ws c) d) /\ Sp.whV (Sp.lastD (Sp.codes ws c) d) <= 9999:=by
  intro c d hc hd
  have inl:Sp.lastD (Sp.codes ws c) d ∈ Sp.codes ws c -> 1 <= Sp.whV (Sp.lastD (Sp.codes ws c) d) /\ Sp.whV (Sp.lastD (Sp.codes ws c) d) <= 9999:=fun hm => by
   obtain ⟨w,k1,k2,k3⟩:=codes_mem hm
   have:=h1 w k1
   unfold Sp.okL at this
   rw [if_pos (by rw [k2];exact hc),k3] at this
   exact whB_rng this
  rcases hd with hd | hd
  ·rcases lastD_mem (Sp.codes ws c) d with e | e
   ·rw [e];exact whB_rng hd
   ·exact inl e
  ·match hl:Sp.codes ws c,hd with
   | x :: r,_ =>
    rw [hl] at inl
    refine inl ?_
    unfold Sp.lastD
    rw [List.foldl_cons]
    rcases lastD_mem r x with e | e
    ·unfold Sp.lastD at e;rw [e];exact List.mem_cons_self
    ·unfold Sp.lastD at e;exact List.mem_cons_of_mem _ e
 refine ⟨key 76 1000 (.inr rfl) (.inl (by decide)),key 80 0 (.inl rfl) (.inr ?_)⟩
 have:=h2.2.1
 unfold Sp.cnt at this
 omega
theorem fnd_len (s:List Sb) (m:Int):Sp.fnd s m < s.length:=by
 unfold Sp.fnd Sp.idxP
 rcases idxF_ge (Sp.isN m) s 0 (by omega) with ⟨h,_⟩ | ⟨_,h,_⟩ <;> omega
theorem at_len {s:List Sb} {x:Bk} (h:0 <= Sp.fnd s (Sp.cN x.ws)):Sp.at' s x < s.length:=by
 have:=fnd_len s (Sp.cN x.ws)
 unfold Sp.at'
 omega
theorem cap_le (x:Int):Sp.cap x <= 20001:=by unfold Sp.cap;split <;> omega
theorem cap_ge {x:Int} (h:0 <= x):0 <= Sp.cap x:=by unfold Sp.cap;split <;> omega
theorem sumC_eq (a b:Int):Sp.sumC a b = Sp.cap (a + b):=rfl
theorem mul_rng {x t:Int} (h1:0 <= x) (h2:x <= 20001) (h3:1 <= t) (h4:t <= 9999):0 <= x * t /\ x * t <= 200000000:=by
 have h5:0 <= x * t:=Int.mul_nonneg h1 (by omega)
 have h6:x * t <= 20001 * 9999:=Int.mul_le_mul h2 h4 (by omega) (by omega)
 omega
theorem tvMea_loop {g h q fz fd:Bool} {l b:List Bk} {s:List Sb} {z d:List Int} {dq:AV} (hk:Sp.okM s b z d):∀ (c i:Nat) (a e:Int),i + c = b.length -> 0 <= a -> a <= 20001 -> (∀ r,r = Sp.meaR s z d (b.drop i) a e -> AV.tup [.int .i64 r.1,.int .i64 r.2.1,.bool r.2.2] = dq) -> tvMea_at g l h s q b fz fd z d a e i (PureQ dq):=by
 obtain ⟨hs,hb,hf,hz1,hd1,hz,hd⟩:=hk
 have hbl:=hb.1
 intro c
 induction c with
 | zero =>
  intro i a e hi _ _ hq
  rw [List.drop_eq_nil_of_le (by omega)] at hq
  exact tvMea _ _ _ _ _ _ _ _ _ _ _ _ _ _ ⟨fun h => by omega,fun _ => hq _ rfl⟩
 | succ c ih =>
  intro i a e hi ha1 ha2 hq
  rw [drop_getD (show i < b.length by omega),Sp.meaR] at hq
  have hm:=getD_mem (show i < b.length by omega)
  refine tvMea _ _ _ _ _ _ _ _ _ _ _ _ _ _ ⟨fun _ => ?_,fun h => by omega⟩
  rw [Int.toNat_natCast]
  refine ⟨hb.2 _ hm,by omega,by omega,fun k => ?_,fun k => ?_⟩
  ·rw [if_neg k] at hq
   refine ⟨⟨ha1,ha2,by omega,by omega⟩,by omega,ih (i + 1) _ _ (by omega) ?_ ?_ hq⟩
   ·rw [sumC_eq];exact cap_ge (by omega)
   ·rw [sumC_eq];exact cap_le _
  ·have k1:=Classical.not_not.1 k
   rw [if_pos k1] at hq
   have hfn:=hf _ hm k1
   have hat:=at_len hfn
   have hct:=(cIs_at k1).1
   unfold Sp.at' at hq hat
   have hzm:=hz _ (getD_mem (show (Sp.fnd s (Sp.cN (b.getD i default).ws)).toNat < z.length by omega))
   have hdm:=hd _ (getD_mem (show (Sp.fnd s (Sp.cN (b.getD i default).ws)).toNat < d.length by omega))
   refine ⟨hs,hfn,by omega,fun k2 => ?_,fun k2 => ?_⟩
   ·rw [if_pos k2] at hq;exact hq _ rfl
   ·rw [if_neg k2] at hq
    have hr:=mul_rng (show 0 <= z.getD (Sp.fnd s (Sp.cN (b.getD i default).ws)).toNat default by omega) hzm.2 hct.1 hct.2
    refine ⟨by omega,⟨ha1,ha2,cap_ge hr.1,cap_le _⟩,by omega,by omega,by omega,ih (i + 1) _ _ (by omega) ?_ ?_ hq⟩
    ·rw [sumC_eq];exact cap_ge (by have:=cap_ge hr.1;unfold Sp.cap at this;omega)
    ·rw [sumC_eq];exact cap_le _
theorem ev55 (g h q fz fd:Bool) (l b:List Bk) (s:List Sb) (z d:List Int) (hk:Sp.okM s b z d):Ev M1 (.pure 55 [pgA g h l s,bsA q b,.vec fz 1 (z.map (.int .i64)),.vec fd 1 (d.map (.int .i64))]) (.tup [.int .i64 (Sp.meaR s z d b 0 0).1,.int .i64 (Sp.meaR s z d b 0 0).2.1,.bool (Sp.meaR s z d b 0 0).2.2]) []:=
 call55 (tvMe _ _ _ _ _ _ _ _ _ _ _ (tvMea_loop hk b.length 0 0 0 (by omega) (by omega) (by omega) (fun r hr => by rw [hr,List.drop_zero])))
end Go.Av
